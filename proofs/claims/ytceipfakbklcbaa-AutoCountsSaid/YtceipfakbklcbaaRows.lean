/-
  No cell of these rows narrows 'for every input' (looked for: loops, veiled, ifaces, maps, wideKeys, modest, calm, conditions, laid).
  DERIVED. THE GIVEN ROWS OF THIS SEAT. 3 by the template 'for every input the law returns true; each argument reads behind the call as it read before'; 0 by the template 'total and deterministic' (their statements: YtceipfakbklcbaaTotals.lean).
  GIVEN WITH THE SEED: the statements are not yours to turn. If you find one false, say at which input.
  Laid BY PROGRAM, IN A SANDBOX (cutbox-rows.mjs): the forced cells as the released guide's own fill.sh prints them over the translation ffa7f3d753e207b2… (all of the seat's roots in one cut). By AI agents, Wed Nov 11 2026. No macro, syntax, notation, axiom, sorry.
-/
import Derived.Test.YtceipfakbklcbaaChecked
import GoSem.Claim
import GoSem.ClaimJoined
import GoSem.ClaimMapViews
import Derived.JoinedTies
import Derived.KernelRfl
namespace Go.Proofs.Ytceipfakbklcbaa
/- THE CELL 'sum', in the pinned program and in every row, IS THE sha256 OF THE DUMP (.gsa) THAT YtceipfakbklcbaaProg.lean LOADS. Nothing in Lean hashes anything: it is a label: what it is worth is what the hold of that sum in a sandbox is worth. -/
noncomputable def Try.pinned : Pinned := { name := "ytceipfakbklcbaa", sum := "ffa7f3d753e207b29faa127e3999ce80209bf1e6d03caa3356c40666cea39454", checked := Try.checked }
namespace Rows
def none {H : Type} : Left H := { results := [], args := [] }

/-- 'weirgatelaw13.AutoPlaces': WHATEVER THE INPUT: true; the input reads as it did. -/
def autoPlacesSpec : ChangeSpec := { name := "autoPlaces", fn := fun _ => fun
  | [d] => { results := [.lit (.bool true)], args := [d] }
  | _ => none }
def autoPlacesRow : OpenClaim := { program := "ytceipfakbklcbaa", sum := "ffa7f3d753e207b29faa127e3999ce80209bf1e6d03caa3356c40666cea39454", func := "weirgate/weirgatelaw13.AutoPlaces", spec := "autoPlaces", inPlace := ["internal/bytealg.IndexByteString"], unfollowed := true, recurses := true, apart := false }
def AutoPlacesSaid : Prop := autoPlacesRow.holds Try.pinned (OpenSpec.ofChange autoPlacesSpec)

/-- ITS FALSE NEIGHBOUR: 'it returns false'. Refute it at one input. -/
def autoPlacesWrong : ChangeSpec := { name := "autoPlaces", fn := fun _ => fun
  | [d] => { results := [.lit (.bool false)], args := [d] }
  | _ => none }
def AutoPlacesWrongFalsely : Prop := autoPlacesRow.holds Try.pinned (OpenSpec.ofChange autoPlacesWrong)

/-- 'weirgatelaw13.AutoCounts': WHATEVER THE INPUT: true; the input reads as it did. -/
def autoCountsSpec : ChangeSpec := { name := "autoCounts", fn := fun _ => fun
  | [d1, d2, d3] => { results := [.lit (.bool true)], args := [d1, d2, d3] }
  | _ => none }
def autoCountsRow : OpenClaim := { program := "ytceipfakbklcbaa", sum := "ffa7f3d753e207b29faa127e3999ce80209bf1e6d03caa3356c40666cea39454", func := "weirgate/weirgatelaw13.AutoCounts", spec := "autoCounts", inPlace := ["internal/bytealg.IndexByteString"], unfollowed := true, recurses := true, apart := false }
def AutoCountsSaid : Prop := autoCountsRow.holds Try.pinned (OpenSpec.ofChange autoCountsSpec)

/-- ITS FALSE NEIGHBOUR: 'it returns false'. Refute it at one input. -/
def autoCountsWrong : ChangeSpec := { name := "autoCounts", fn := fun _ => fun
  | [d1, d2, d3] => { results := [.lit (.bool false)], args := [d1, d2, d3] }
  | _ => none }
def AutoCountsWrongFalsely : Prop := autoCountsRow.holds Try.pinned (OpenSpec.ofChange autoCountsWrong)

/-- 'weirgatelaw13.AutoCopies': WHATEVER THE INPUT: true; the input reads as it did. -/
def autoCopiesSpec : ChangeSpec := { name := "autoCopies", fn := fun _ => fun
  | [d] => { results := [.lit (.bool true)], args := [d] }
  | _ => none }
def autoCopiesRow : OpenClaim := { program := "ytceipfakbklcbaa", sum := "ffa7f3d753e207b29faa127e3999ce80209bf1e6d03caa3356c40666cea39454", func := "weirgate/weirgatelaw13.AutoCopies", spec := "autoCopies", inPlace := ["internal/bytealg.IndexByteString"], unfollowed := true, recurses := true, apart := false }
def AutoCopiesSaid : Prop := autoCopiesRow.holds Try.pinned (OpenSpec.ofChange autoCopiesSpec)

/-- ITS FALSE NEIGHBOUR: 'it returns false'. Refute it at one input. -/
def autoCopiesWrong : ChangeSpec := { name := "autoCopies", fn := fun _ => fun
  | [d] => { results := [.lit (.bool false)], args := [d] }
  | _ => none }
def AutoCopiesWrongFalsely : Prop := autoCopiesRow.holds Try.pinned (OpenSpec.ofChange autoCopiesWrong)

/- THE SECOND FORM. 'bulk': how many values and letters a reading holds, each counted each time it is reached (what is shared counts as often as it is met; a slice's spare places count too). A statement '..UptoSaid' is the law's where the arguments, and the package variables that the reading takes, are together of bulk at most 1048576: NARROWER than '..Said'. Prove '..Said' where nothing that the law and all that it calls make is longer than what came in: it says more and counts as full. Else prove '..UptoSaid'. A law counts once. -/
mutual
def uptoBulk {H : Type} : DataW H → Nat
  | .lit (.string bytes) => bytes.length + 1
  | .lit _ => 1
  | .nil => 1
  | .ptr d => uptoBulk d + 1
  | .slice elems spare => uptoBulkAll elems + uptoBulkAll spare + 1
  | .agg parts => uptoBulkAll parts + 1
  | .iface _ d => uptoBulk d + 1
  | .map entries => uptoBulkEntries entries + 1
  | .held _ => 1
def uptoBulkAll {H : Type} : List (DataW H) → Nat
  | [] => 0
  | d :: r => uptoBulk d + uptoBulkAll r
def uptoBulkEntries {H : Type} : List (Lit × DataW H) → Nat
  | [] => 0
  | x :: r => uptoBulkEntry x + uptoBulkEntries r
def uptoBulkEntry {H : Type} : Lit × DataW H → Nat
  | (.string bytes, d) => bytes.length + uptoBulk d + 1
  | (_, d) => uptoBulk d + 1
 end
def uptoSmall : (H : Type) → List (DataW H) → Bool := fun _ ds => decide (uptoBulkAll ds ≤ 1048576)
def OpenSpec.upto (s : _root_.Go.ChangeSpec) : _root_.Go.OpenSpec := { _root_.Go.OpenSpec.ofChange s with cond := some uptoSmall }

/-- 'weirgatelaw13.AutoPlaces', WHERE WHAT IT READS IS OF BULK AT MOST 1048576: true; the input reads as it did. -/
def autoPlacesUptoRow : OpenClaim := { program := "ytceipfakbklcbaa", sum := "ffa7f3d753e207b29faa127e3999ce80209bf1e6d03caa3356c40666cea39454", func := "weirgate/weirgatelaw13.AutoPlaces", spec := "autoPlaces", inPlace := ["internal/bytealg.IndexByteString"], unfollowed := true, recurses := true, apart := false, narrowed := true }
def AutoPlacesUptoSaid : Prop := autoPlacesUptoRow.holds Try.pinned (OpenSpec.upto autoPlacesSpec)

/-- 'weirgatelaw13.AutoCounts', WHERE WHAT IT READS IS OF BULK AT MOST 1048576: true; the input reads as it did. -/
def autoCountsUptoRow : OpenClaim := { program := "ytceipfakbklcbaa", sum := "ffa7f3d753e207b29faa127e3999ce80209bf1e6d03caa3356c40666cea39454", func := "weirgate/weirgatelaw13.AutoCounts", spec := "autoCounts", inPlace := ["internal/bytealg.IndexByteString"], unfollowed := true, recurses := true, apart := false, narrowed := true }
def AutoCountsUptoSaid : Prop := autoCountsUptoRow.holds Try.pinned (OpenSpec.upto autoCountsSpec)

/-- 'weirgatelaw13.AutoCopies', WHERE WHAT IT READS IS OF BULK AT MOST 1048576: true; the input reads as it did. -/
def autoCopiesUptoRow : OpenClaim := { program := "ytceipfakbklcbaa", sum := "ffa7f3d753e207b29faa127e3999ce80209bf1e6d03caa3356c40666cea39454", func := "weirgate/weirgatelaw13.AutoCopies", spec := "autoCopies", inPlace := ["internal/bytealg.IndexByteString"], unfollowed := true, recurses := true, apart := false, narrowed := true }
def AutoCopiesUptoSaid : Prop := autoCopiesUptoRow.holds Try.pinned (OpenSpec.upto autoCopiesSpec)

end Rows
end Go.Proofs.Ytceipfakbklcbaa
