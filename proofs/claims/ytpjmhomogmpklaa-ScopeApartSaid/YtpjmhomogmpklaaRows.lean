/-
  No cell of these rows narrows 'for every input' (looked for: loops, veiled, ifaces, maps, wideKeys, modest, calm, conditions, laid).
  DERIVED. THE GIVEN ROWS OF THIS SEAT. 10 by the template 'for every input the law returns true; each argument reads behind the call as it read before'; 0 by the template 'total and deterministic' (their statements: YtpjmhomogmpklaaTotals.lean).
  GIVEN WITH THE SEED: the statements are not yours to turn. If you find one false, say at which input.
  Laid BY PROGRAM, IN A SANDBOX (cutbox-rows.mjs): the forced cells as the released guide's own fill.sh prints them over the translation 2c6fb5d7605e5243… (all of the seat's roots in one cut). By AI agents, Wed Nov 11 2026. No macro, syntax, notation, axiom, sorry.
-/
import Derived.Test.YtpjmhomogmpklaaChecked
import GoSem.Claim
import GoSem.ClaimJoined
import GoSem.ClaimMapViews
import Derived.JoinedTies
import Derived.KernelRfl
namespace Go.Proofs.Ytpjmhomogmpklaa
/- THE CELL 'sum', in the pinned program and in every row, IS THE sha256 OF THE DUMP (.gsa) THAT YtpjmhomogmpklaaProg.lean LOADS. Nothing in Lean hashes anything: it is a label: what it is worth is what the hold of that sum in a sandbox is worth. -/
noncomputable def Try.pinned : Pinned := { name := "ytpjmhomogmpklaa", sum := "2c6fb5d7605e52434f20b57c48ea45040e1b8274ddfa2e55ccb8dfc39c04ce9f", checked := Try.checked }
namespace Rows
def none {H : Type} : Left H := { results := [], args := [] }

/-- 'weirgatelaw11.ScopeChecks': WHATEVER THE INPUT: true; the input reads as it did. -/
def scopeChecksSpec : ChangeSpec := { name := "scopeChecks", fn := fun _ => fun
  | [d] => { results := [.lit (.bool true)], args := [d] }
  | _ => none }
def scopeChecksRow : OpenClaim := { program := "ytpjmhomogmpklaa", sum := "2c6fb5d7605e52434f20b57c48ea45040e1b8274ddfa2e55ccb8dfc39c04ce9f", func := "weirgate/weirgatelaw11.ScopeChecks", spec := "scopeChecks", inPlace := ["internal/bytealg.IndexByteString"], unfollowed := true, recurses := true, apart := false }
def ScopeChecksSaid : Prop := scopeChecksRow.holds Try.pinned (OpenSpec.ofChange scopeChecksSpec)

/-- ITS FALSE NEIGHBOUR: 'it returns false'. Refute it at one input. -/
def scopeChecksWrong : ChangeSpec := { name := "scopeChecks", fn := fun _ => fun
  | [d] => { results := [.lit (.bool false)], args := [d] }
  | _ => none }
def ScopeChecksWrongFalsely : Prop := scopeChecksRow.holds Try.pinned (OpenSpec.ofChange scopeChecksWrong)

/-- 'weirgatelaw11.ScopeApart': WHATEVER THE INPUT: true; the input reads as it did. -/
def scopeApartSpec : ChangeSpec := { name := "scopeApart", fn := fun _ => fun
  | [d1, d2] => { results := [.lit (.bool true)], args := [d1, d2] }
  | _ => none }
def scopeApartRow : OpenClaim := { program := "ytpjmhomogmpklaa", sum := "2c6fb5d7605e52434f20b57c48ea45040e1b8274ddfa2e55ccb8dfc39c04ce9f", func := "weirgate/weirgatelaw11.ScopeApart", spec := "scopeApart", inPlace := ["internal/bytealg.IndexByteString"], unfollowed := true, recurses := true, apart := false }
def ScopeApartSaid : Prop := scopeApartRow.holds Try.pinned (OpenSpec.ofChange scopeApartSpec)

/-- ITS FALSE NEIGHBOUR: 'it returns false'. Refute it at one input. -/
def scopeApartWrong : ChangeSpec := { name := "scopeApart", fn := fun _ => fun
  | [d1, d2] => { results := [.lit (.bool false)], args := [d1, d2] }
  | _ => none }
def ScopeApartWrongFalsely : Prop := scopeApartRow.holds Try.pinned (OpenSpec.ofChange scopeApartWrong)

/-- 'weirgatelaw11.ScopeTwice': WHATEVER THE INPUT: true; the input reads as it did. -/
def scopeTwiceSpec : ChangeSpec := { name := "scopeTwice", fn := fun _ => fun
  | [d1, d2] => { results := [.lit (.bool true)], args := [d1, d2] }
  | _ => none }
def scopeTwiceRow : OpenClaim := { program := "ytpjmhomogmpklaa", sum := "2c6fb5d7605e52434f20b57c48ea45040e1b8274ddfa2e55ccb8dfc39c04ce9f", func := "weirgate/weirgatelaw11.ScopeTwice", spec := "scopeTwice", inPlace := ["internal/bytealg.IndexByteString"], unfollowed := true, recurses := true, apart := false }
def ScopeTwiceSaid : Prop := scopeTwiceRow.holds Try.pinned (OpenSpec.ofChange scopeTwiceSpec)

/-- ITS FALSE NEIGHBOUR: 'it returns false'. Refute it at one input. -/
def scopeTwiceWrong : ChangeSpec := { name := "scopeTwice", fn := fun _ => fun
  | [d1, d2] => { results := [.lit (.bool false)], args := [d1, d2] }
  | _ => none }
def ScopeTwiceWrongFalsely : Prop := scopeTwiceRow.holds Try.pinned (OpenSpec.ofChange scopeTwiceWrong)

/-- 'weirgatelaw11.ScopeAhead': WHATEVER THE INPUT: true; the input reads as it did. -/
def scopeAheadSpec : ChangeSpec := { name := "scopeAhead", fn := fun _ => fun
  | [d1, d2] => { results := [.lit (.bool true)], args := [d1, d2] }
  | _ => none }
def scopeAheadRow : OpenClaim := { program := "ytpjmhomogmpklaa", sum := "2c6fb5d7605e52434f20b57c48ea45040e1b8274ddfa2e55ccb8dfc39c04ce9f", func := "weirgate/weirgatelaw11.ScopeAhead", spec := "scopeAhead", inPlace := ["internal/bytealg.IndexByteString"], unfollowed := true, recurses := true, apart := false }
def ScopeAheadSaid : Prop := scopeAheadRow.holds Try.pinned (OpenSpec.ofChange scopeAheadSpec)

/-- ITS FALSE NEIGHBOUR: 'it returns false'. Refute it at one input. -/
def scopeAheadWrong : ChangeSpec := { name := "scopeAhead", fn := fun _ => fun
  | [d1, d2] => { results := [.lit (.bool false)], args := [d1, d2] }
  | _ => none }
def ScopeAheadWrongFalsely : Prop := scopeAheadRow.holds Try.pinned (OpenSpec.ofChange scopeAheadWrong)

/-- 'weirgatelaw11.ScopeNames': WHATEVER THE INPUT: true; the input reads as it did. -/
def scopeNamesSpec : ChangeSpec := { name := "scopeNames", fn := fun _ => fun
  | [d1, d2] => { results := [.lit (.bool true)], args := [d1, d2] }
  | _ => none }
def scopeNamesRow : OpenClaim := { program := "ytpjmhomogmpklaa", sum := "2c6fb5d7605e52434f20b57c48ea45040e1b8274ddfa2e55ccb8dfc39c04ce9f", func := "weirgate/weirgatelaw11.ScopeNames", spec := "scopeNames", inPlace := ["internal/bytealg.IndexByteString"], unfollowed := true, recurses := true, apart := false }
def ScopeNamesSaid : Prop := scopeNamesRow.holds Try.pinned (OpenSpec.ofChange scopeNamesSpec)

/-- ITS FALSE NEIGHBOUR: 'it returns false'. Refute it at one input. -/
def scopeNamesWrong : ChangeSpec := { name := "scopeNames", fn := fun _ => fun
  | [d1, d2] => { results := [.lit (.bool false)], args := [d1, d2] }
  | _ => none }
def ScopeNamesWrongFalsely : Prop := scopeNamesRow.holds Try.pinned (OpenSpec.ofChange scopeNamesWrong)

/-- 'weirgatelaw12.TypingBounds': WHATEVER THE INPUT: true; the input reads as it did. -/
def typingBoundsSpec : ChangeSpec := { name := "typingBounds", fn := fun _ => fun
  | [d1, d2] => { results := [.lit (.bool true)], args := [d1, d2] }
  | _ => none }
def typingBoundsRow : OpenClaim := { program := "ytpjmhomogmpklaa", sum := "2c6fb5d7605e52434f20b57c48ea45040e1b8274ddfa2e55ccb8dfc39c04ce9f", func := "weirgate/weirgatelaw12.TypingBounds", spec := "typingBounds", inPlace := ["internal/bytealg.IndexByteString", "internal/bytealg.CountString", "internal/bytealg.IndexString"], unfollowed := true, recurses := true, named := ["internal/bytealg.MaxLen"], apart := false }
def TypingBoundsSaid : Prop := typingBoundsRow.holds Try.pinned (OpenSpec.ofChange typingBoundsSpec)

/-- ITS FALSE NEIGHBOUR: 'it returns false'. Refute it at one input. -/
def typingBoundsWrong : ChangeSpec := { name := "typingBounds", fn := fun _ => fun
  | [d1, d2] => { results := [.lit (.bool false)], args := [d1, d2] }
  | _ => none }
def TypingBoundsWrongFalsely : Prop := typingBoundsRow.holds Try.pinned (OpenSpec.ofChange typingBoundsWrong)

/-- 'weirgatelaw12.TypingCopies': WHATEVER THE INPUT: true; the input reads as it did. -/
def typingCopiesSpec : ChangeSpec := { name := "typingCopies", fn := fun _ => fun
  | [d1, d2, d3] => { results := [.lit (.bool true)], args := [d1, d2, d3] }
  | _ => none }
def typingCopiesRow : OpenClaim := { program := "ytpjmhomogmpklaa", sum := "2c6fb5d7605e52434f20b57c48ea45040e1b8274ddfa2e55ccb8dfc39c04ce9f", func := "weirgate/weirgatelaw12.TypingCopies", spec := "typingCopies", inPlace := ["internal/bytealg.IndexByteString", "internal/bytealg.CountString", "internal/bytealg.IndexString"], unfollowed := true, recurses := true, named := ["internal/bytealg.MaxLen"], apart := false }
def TypingCopiesSaid : Prop := typingCopiesRow.holds Try.pinned (OpenSpec.ofChange typingCopiesSpec)

/-- ITS FALSE NEIGHBOUR: 'it returns false'. Refute it at one input. -/
def typingCopiesWrong : ChangeSpec := { name := "typingCopies", fn := fun _ => fun
  | [d1, d2, d3] => { results := [.lit (.bool false)], args := [d1, d2, d3] }
  | _ => none }
def TypingCopiesWrongFalsely : Prop := typingCopiesRow.holds Try.pinned (OpenSpec.ofChange typingCopiesWrong)

/-- 'weirgatelaw12.TypingAtomics': WHATEVER THE INPUT: true; the input reads as it did. -/
def typingAtomicsSpec : ChangeSpec := { name := "typingAtomics", fn := fun _ => fun
  | [d1, d2] => { results := [.lit (.bool true)], args := [d1, d2] }
  | _ => none }
def typingAtomicsRow : OpenClaim := { program := "ytpjmhomogmpklaa", sum := "2c6fb5d7605e52434f20b57c48ea45040e1b8274ddfa2e55ccb8dfc39c04ce9f", func := "weirgate/weirgatelaw12.TypingAtomics", spec := "typingAtomics", inPlace := ["internal/bytealg.IndexByteString", "internal/bytealg.CountString", "internal/bytealg.IndexString"], unfollowed := true, recurses := true, named := ["internal/bytealg.MaxLen"], apart := false }
def TypingAtomicsSaid : Prop := typingAtomicsRow.holds Try.pinned (OpenSpec.ofChange typingAtomicsSpec)

/-- ITS FALSE NEIGHBOUR: 'it returns false'. Refute it at one input. -/
def typingAtomicsWrong : ChangeSpec := { name := "typingAtomics", fn := fun _ => fun
  | [d1, d2] => { results := [.lit (.bool false)], args := [d1, d2] }
  | _ => none }
def TypingAtomicsWrongFalsely : Prop := typingAtomicsRow.holds Try.pinned (OpenSpec.ofChange typingAtomicsWrong)

/-- 'weirgatelaw13.AutoPlaces': WHATEVER THE INPUT: true; the input reads as it did. -/
def autoPlacesSpec : ChangeSpec := { name := "autoPlaces", fn := fun _ => fun
  | [d] => { results := [.lit (.bool true)], args := [d] }
  | _ => none }
def autoPlacesRow : OpenClaim := { program := "ytpjmhomogmpklaa", sum := "2c6fb5d7605e52434f20b57c48ea45040e1b8274ddfa2e55ccb8dfc39c04ce9f", func := "weirgate/weirgatelaw13.AutoPlaces", spec := "autoPlaces", inPlace := ["internal/bytealg.IndexByteString"], unfollowed := true, recurses := true, apart := false }
def AutoPlacesSaid : Prop := autoPlacesRow.holds Try.pinned (OpenSpec.ofChange autoPlacesSpec)

/-- ITS FALSE NEIGHBOUR: 'it returns false'. Refute it at one input. -/
def autoPlacesWrong : ChangeSpec := { name := "autoPlaces", fn := fun _ => fun
  | [d] => { results := [.lit (.bool false)], args := [d] }
  | _ => none }
def AutoPlacesWrongFalsely : Prop := autoPlacesRow.holds Try.pinned (OpenSpec.ofChange autoPlacesWrong)

/-- 'weirgatelaw13.AutoCounts': WHATEVER THE INPUT: true; the input reads as it did. -/
def autoCountsSpec : ChangeSpec := { name := "autoCounts", fn := fun _ => fun
  | [d1, d2, d3] => { results := [.lit (.bool true)], args := [d1, d2, d3] }
  | _ => none }
def autoCountsRow : OpenClaim := { program := "ytpjmhomogmpklaa", sum := "2c6fb5d7605e52434f20b57c48ea45040e1b8274ddfa2e55ccb8dfc39c04ce9f", func := "weirgate/weirgatelaw13.AutoCounts", spec := "autoCounts", inPlace := ["internal/bytealg.IndexByteString"], unfollowed := true, recurses := true, apart := false }
def AutoCountsSaid : Prop := autoCountsRow.holds Try.pinned (OpenSpec.ofChange autoCountsSpec)

/-- ITS FALSE NEIGHBOUR: 'it returns false'. Refute it at one input. -/
def autoCountsWrong : ChangeSpec := { name := "autoCounts", fn := fun _ => fun
  | [d1, d2, d3] => { results := [.lit (.bool false)], args := [d1, d2, d3] }
  | _ => none }
def AutoCountsWrongFalsely : Prop := autoCountsRow.holds Try.pinned (OpenSpec.ofChange autoCountsWrong)

/- THE SECOND FORM. 'bulk': how many values and letters a reading holds, each counted each time it is reached (what is shared counts as often as it is met; a slice's spare places count too). A statement '..UptoSaid' is the law's where the arguments, and the package variables that the reading takes, are together of bulk at most 1048576: NARROWER than '..Said'. Prove '..Said' where nothing that the law and all that it calls make is longer than what came in: it says more and counts as full. Else prove '..UptoSaid'. A law counts once. -/
mutual
def uptoBulk {H : Type} : DataW H → Nat
  | .lit (.string bytes) => bytes.length + 1
  | .lit _ => 1
  | .nil => 1
  | .ptr d => uptoBulk d + 1
  | .slice elems spare => uptoBulkAll elems + uptoBulkAll spare + 1
  | .agg parts => uptoBulkAll parts + 1
  | .iface _ d => uptoBulk d + 1
  | .map entries => uptoBulkEntries entries + 1
  | .held _ => 1
def uptoBulkAll {H : Type} : List (DataW H) → Nat
  | [] => 0
  | d :: r => uptoBulk d + uptoBulkAll r
def uptoBulkEntries {H : Type} : List (Lit × DataW H) → Nat
  | [] => 0
  | x :: r => uptoBulkEntry x + uptoBulkEntries r
def uptoBulkEntry {H : Type} : Lit × DataW H → Nat
  | (.string bytes, d) => bytes.length + uptoBulk d + 1
  | (_, d) => uptoBulk d + 1
 end
def uptoSmall : (H : Type) → List (DataW H) → Bool := fun _ ds => decide (uptoBulkAll ds ≤ 1048576)
def OpenSpec.upto (s : _root_.Go.ChangeSpec) : _root_.Go.OpenSpec := { _root_.Go.OpenSpec.ofChange s with cond := some uptoSmall }

/-- 'weirgatelaw11.ScopeChecks', WHERE WHAT IT READS IS OF BULK AT MOST 1048576: true; the input reads as it did. -/
def scopeChecksUptoRow : OpenClaim := { program := "ytpjmhomogmpklaa", sum := "2c6fb5d7605e52434f20b57c48ea45040e1b8274ddfa2e55ccb8dfc39c04ce9f", func := "weirgate/weirgatelaw11.ScopeChecks", spec := "scopeChecks", inPlace := ["internal/bytealg.IndexByteString"], unfollowed := true, recurses := true, apart := false, narrowed := true }
def ScopeChecksUptoSaid : Prop := scopeChecksUptoRow.holds Try.pinned (OpenSpec.upto scopeChecksSpec)

/-- 'weirgatelaw11.ScopeApart', WHERE WHAT IT READS IS OF BULK AT MOST 1048576: true; the input reads as it did. -/
def scopeApartUptoRow : OpenClaim := { program := "ytpjmhomogmpklaa", sum := "2c6fb5d7605e52434f20b57c48ea45040e1b8274ddfa2e55ccb8dfc39c04ce9f", func := "weirgate/weirgatelaw11.ScopeApart", spec := "scopeApart", inPlace := ["internal/bytealg.IndexByteString"], unfollowed := true, recurses := true, apart := false, narrowed := true }
def ScopeApartUptoSaid : Prop := scopeApartUptoRow.holds Try.pinned (OpenSpec.upto scopeApartSpec)

/-- 'weirgatelaw11.ScopeTwice', WHERE WHAT IT READS IS OF BULK AT MOST 1048576: true; the input reads as it did. -/
def scopeTwiceUptoRow : OpenClaim := { program := "ytpjmhomogmpklaa", sum := "2c6fb5d7605e52434f20b57c48ea45040e1b8274ddfa2e55ccb8dfc39c04ce9f", func := "weirgate/weirgatelaw11.ScopeTwice", spec := "scopeTwice", inPlace := ["internal/bytealg.IndexByteString"], unfollowed := true, recurses := true, apart := false, narrowed := true }
def ScopeTwiceUptoSaid : Prop := scopeTwiceUptoRow.holds Try.pinned (OpenSpec.upto scopeTwiceSpec)

/-- 'weirgatelaw11.ScopeAhead', WHERE WHAT IT READS IS OF BULK AT MOST 1048576: true; the input reads as it did. -/
def scopeAheadUptoRow : OpenClaim := { program := "ytpjmhomogmpklaa", sum := "2c6fb5d7605e52434f20b57c48ea45040e1b8274ddfa2e55ccb8dfc39c04ce9f", func := "weirgate/weirgatelaw11.ScopeAhead", spec := "scopeAhead", inPlace := ["internal/bytealg.IndexByteString"], unfollowed := true, recurses := true, apart := false, narrowed := true }
def ScopeAheadUptoSaid : Prop := scopeAheadUptoRow.holds Try.pinned (OpenSpec.upto scopeAheadSpec)

/-- 'weirgatelaw11.ScopeNames', WHERE WHAT IT READS IS OF BULK AT MOST 1048576: true; the input reads as it did. -/
def scopeNamesUptoRow : OpenClaim := { program := "ytpjmhomogmpklaa", sum := "2c6fb5d7605e52434f20b57c48ea45040e1b8274ddfa2e55ccb8dfc39c04ce9f", func := "weirgate/weirgatelaw11.ScopeNames", spec := "scopeNames", inPlace := ["internal/bytealg.IndexByteString"], unfollowed := true, recurses := true, apart := false, narrowed := true }
def ScopeNamesUptoSaid : Prop := scopeNamesUptoRow.holds Try.pinned (OpenSpec.upto scopeNamesSpec)

/-- 'weirgatelaw12.TypingBounds', WHERE WHAT IT READS IS OF BULK AT MOST 1048576: true; the input reads as it did. -/
def typingBoundsUptoRow : OpenClaim := { program := "ytpjmhomogmpklaa", sum := "2c6fb5d7605e52434f20b57c48ea45040e1b8274ddfa2e55ccb8dfc39c04ce9f", func := "weirgate/weirgatelaw12.TypingBounds", spec := "typingBounds", inPlace := ["internal/bytealg.IndexByteString", "internal/bytealg.CountString", "internal/bytealg.IndexString"], unfollowed := true, recurses := true, named := ["internal/bytealg.MaxLen"], apart := false, narrowed := true }
def TypingBoundsUptoSaid : Prop := typingBoundsUptoRow.holds Try.pinned (OpenSpec.upto typingBoundsSpec)

/-- 'weirgatelaw12.TypingCopies', WHERE WHAT IT READS IS OF BULK AT MOST 1048576: true; the input reads as it did. -/
def typingCopiesUptoRow : OpenClaim := { program := "ytpjmhomogmpklaa", sum := "2c6fb5d7605e52434f20b57c48ea45040e1b8274ddfa2e55ccb8dfc39c04ce9f", func := "weirgate/weirgatelaw12.TypingCopies", spec := "typingCopies", inPlace := ["internal/bytealg.IndexByteString", "internal/bytealg.CountString", "internal/bytealg.IndexString"], unfollowed := true, recurses := true, named := ["internal/bytealg.MaxLen"], apart := false, narrowed := true }
def TypingCopiesUptoSaid : Prop := typingCopiesUptoRow.holds Try.pinned (OpenSpec.upto typingCopiesSpec)

/-- 'weirgatelaw12.TypingAtomics', WHERE WHAT IT READS IS OF BULK AT MOST 1048576: true; the input reads as it did. -/
def typingAtomicsUptoRow : OpenClaim := { program := "ytpjmhomogmpklaa", sum := "2c6fb5d7605e52434f20b57c48ea45040e1b8274ddfa2e55ccb8dfc39c04ce9f", func := "weirgate/weirgatelaw12.TypingAtomics", spec := "typingAtomics", inPlace := ["internal/bytealg.IndexByteString", "internal/bytealg.CountString", "internal/bytealg.IndexString"], unfollowed := true, recurses := true, named := ["internal/bytealg.MaxLen"], apart := false, narrowed := true }
def TypingAtomicsUptoSaid : Prop := typingAtomicsUptoRow.holds Try.pinned (OpenSpec.upto typingAtomicsSpec)

/-- 'weirgatelaw13.AutoPlaces', WHERE WHAT IT READS IS OF BULK AT MOST 1048576: true; the input reads as it did. -/
def autoPlacesUptoRow : OpenClaim := { program := "ytpjmhomogmpklaa", sum := "2c6fb5d7605e52434f20b57c48ea45040e1b8274ddfa2e55ccb8dfc39c04ce9f", func := "weirgate/weirgatelaw13.AutoPlaces", spec := "autoPlaces", inPlace := ["internal/bytealg.IndexByteString"], unfollowed := true, recurses := true, apart := false, narrowed := true }
def AutoPlacesUptoSaid : Prop := autoPlacesUptoRow.holds Try.pinned (OpenSpec.upto autoPlacesSpec)

/-- 'weirgatelaw13.AutoCounts', WHERE WHAT IT READS IS OF BULK AT MOST 1048576: true; the input reads as it did. -/
def autoCountsUptoRow : OpenClaim := { program := "ytpjmhomogmpklaa", sum := "2c6fb5d7605e52434f20b57c48ea45040e1b8274ddfa2e55ccb8dfc39c04ce9f", func := "weirgate/weirgatelaw13.AutoCounts", spec := "autoCounts", inPlace := ["internal/bytealg.IndexByteString"], unfollowed := true, recurses := true, apart := false, narrowed := true }
def AutoCountsUptoSaid : Prop := autoCountsUptoRow.holds Try.pinned (OpenSpec.upto autoCountsSpec)

end Rows
end Go.Proofs.Ytpjmhomogmpklaa
