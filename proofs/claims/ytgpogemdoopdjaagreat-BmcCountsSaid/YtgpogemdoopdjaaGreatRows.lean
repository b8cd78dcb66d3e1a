/-
  No cell of these rows narrows 'for every input' (looked for: loops, veiled, ifaces, maps, wideKeys, modest, calm, conditions, laid).
  DERIVED. THE GIVEN ROWS OF THIS SEAT. 4 by the template 'for every input the law returns true; each argument reads behind the call as it read before'; 0 by the template 'total and deterministic' (their statements: YtgpogemdoopdjaaGreatTotals.lean).
  GIVEN WITH THE SEED: the statements are not yours to turn. If you find one false, say at which input.
  Laid BY PROGRAM, IN A SANDBOX (cutbox-rows.mjs): the forced cells as the released guide's own fill.sh prints them over the translation 013c4a6907a15683… (all of the seat's roots in one cut). By AI agents, Wed Nov 11 2026. No macro, syntax, notation, axiom, sorry.
-/
import Derived.Test.YtgpogemdoopdjaaGreatChecked
import GoSem.Claim
import GoSem.ClaimJoined
import GoSem.ClaimMapViews
import Derived.JoinedTies
import Derived.KernelRfl
namespace Go.Proofs.YtgpogemdoopdjaaGreat
/- THE CELL 'sum', in the pinned program and in every row, IS THE sha256 OF THE DUMP (.gsa) THAT YtgpogemdoopdjaaGreatProg.lean LOADS. Nothing in Lean hashes anything: it is a label: what it is worth is what the hold of that sum in a sandbox is worth. -/
noncomputable def Tryz.pinned : Pinned := { name := "ytgpogemdoopdjaagreat", sum := "013c4a6907a15683129bc9edeb28ab411916049a954ab86b5338087b526170a7", checked := Tryz.checked }
namespace Rows
def none {H : Type} : Left H := { results := [], args := [] }

/-- 'weirgatelaw23.UnrollLong': WHATEVER THE INPUT: true; the input reads as it did. -/
def unrollLongSpec : ChangeSpec := { name := "unrollLong", fn := fun _ => fun
  | [d1, d2] => { results := [.lit (.bool true)], args := [d1, d2] }
  | _ => none }
def unrollLongRow : OpenClaim := { program := "ytgpogemdoopdjaagreat", sum := "013c4a6907a15683129bc9edeb28ab411916049a954ab86b5338087b526170a7", func := "weirgate/weirgatelaw23.UnrollLong", spec := "unrollLong", unfollowed := true, recurses := true, plainKeys := false, apart := false }
def UnrollLongSaid : Prop := unrollLongRow.holds Tryz.pinned (OpenSpec.ofChange unrollLongSpec)

/-- ITS FALSE NEIGHBOUR: 'it returns false'. Refute it at one input. -/
def unrollLongWrong : ChangeSpec := { name := "unrollLong", fn := fun _ => fun
  | [d1, d2] => { results := [.lit (.bool false)], args := [d1, d2] }
  | _ => none }
def UnrollLongWrongFalsely : Prop := unrollLongRow.holds Tryz.pinned (OpenSpec.ofChange unrollLongWrong)

/-- 'weirgatelaw24.BmcCounts': WHATEVER THE INPUT: true; the input reads as it did. -/
def bmcCountsSpec : ChangeSpec := { name := "bmcCounts", fn := fun _ => fun
  | [d1, d2] => { results := [.lit (.bool true)], args := [d1, d2] }
  | _ => none }
def bmcCountsRow : OpenClaim := { program := "ytgpogemdoopdjaagreat", sum := "013c4a6907a15683129bc9edeb28ab411916049a954ab86b5338087b526170a7", func := "weirgate/weirgatelaw24.BmcCounts", spec := "bmcCounts", unfollowed := true, recurses := true, plainKeys := false, apart := false }
def BmcCountsSaid : Prop := bmcCountsRow.holds Tryz.pinned (OpenSpec.ofChange bmcCountsSpec)

/-- ITS FALSE NEIGHBOUR: 'it returns false'. Refute it at one input. -/
def bmcCountsWrong : ChangeSpec := { name := "bmcCounts", fn := fun _ => fun
  | [d1, d2] => { results := [.lit (.bool false)], args := [d1, d2] }
  | _ => none }
def BmcCountsWrongFalsely : Prop := bmcCountsRow.holds Tryz.pinned (OpenSpec.ofChange bmcCountsWrong)

/-- 'weirgatelaw24.BmcHeld': WHATEVER THE INPUT: true; the input reads as it did. -/
def bmcHeldSpec : ChangeSpec := { name := "bmcHeld", fn := fun _ => fun
  | [d] => { results := [.lit (.bool true)], args := [d] }
  | _ => none }
def bmcHeldRow : OpenClaim := { program := "ytgpogemdoopdjaagreat", sum := "013c4a6907a15683129bc9edeb28ab411916049a954ab86b5338087b526170a7", func := "weirgate/weirgatelaw24.BmcHeld", spec := "bmcHeld", unfollowed := true, recurses := true, plainKeys := false, apart := false }
def BmcHeldSaid : Prop := bmcHeldRow.holds Tryz.pinned (OpenSpec.ofChange bmcHeldSpec)

/-- ITS FALSE NEIGHBOUR: 'it returns false'. Refute it at one input. -/
def bmcHeldWrong : ChangeSpec := { name := "bmcHeld", fn := fun _ => fun
  | [d] => { results := [.lit (.bool false)], args := [d] }
  | _ => none }
def BmcHeldWrongFalsely : Prop := bmcHeldRow.holds Tryz.pinned (OpenSpec.ofChange bmcHeldWrong)

/-- 'weirgatelaw25.InductCounts': WHATEVER THE INPUT: true; the input reads as it did. -/
def inductCountsSpec : ChangeSpec := { name := "inductCounts", fn := fun _ => fun
  | [d1, d2] => { results := [.lit (.bool true)], args := [d1, d2] }
  | _ => none }
def inductCountsRow : OpenClaim := { program := "ytgpogemdoopdjaagreat", sum := "013c4a6907a15683129bc9edeb28ab411916049a954ab86b5338087b526170a7", func := "weirgate/weirgatelaw25.InductCounts", spec := "inductCounts", unfollowed := true, recurses := true, plainKeys := false, apart := false }
def InductCountsSaid : Prop := inductCountsRow.holds Tryz.pinned (OpenSpec.ofChange inductCountsSpec)

/-- ITS FALSE NEIGHBOUR: 'it returns false'. Refute it at one input. -/
def inductCountsWrong : ChangeSpec := { name := "inductCounts", fn := fun _ => fun
  | [d1, d2] => { results := [.lit (.bool false)], args := [d1, d2] }
  | _ => none }
def InductCountsWrongFalsely : Prop := inductCountsRow.holds Tryz.pinned (OpenSpec.ofChange inductCountsWrong)

/- THE SECOND FORM. 'bulk': how many values and letters a reading holds, each counted each time it is reached (what is shared counts as often as it is met; a slice's spare places count too). A statement '..UptoSaid' is the law's where the arguments, and the package variables that the reading takes, are together of bulk at most 1048576: NARROWER than '..Said'. Prove '..Said' where nothing that the law and all that it calls make is longer than what came in: it says more and counts as full. Else prove '..UptoSaid'. A law counts once. -/
mutual
def uptoBulk {H : Type} : DataW H → Nat
  | .lit (.string bytes) => bytes.length + 1
  | .lit _ => 1
  | .nil => 1
  | .ptr d => uptoBulk d + 1
  | .slice elems spare => uptoBulkAll elems + uptoBulkAll spare + 1
  | .agg parts => uptoBulkAll parts + 1
  | .iface _ d => uptoBulk d + 1
  | .map entries => uptoBulkEntries entries + 1
  | .held _ => 1
def uptoBulkAll {H : Type} : List (DataW H) → Nat
  | [] => 0
  | d :: r => uptoBulk d + uptoBulkAll r
def uptoBulkEntries {H : Type} : List (Lit × DataW H) → Nat
  | [] => 0
  | x :: r => uptoBulkEntry x + uptoBulkEntries r
def uptoBulkEntry {H : Type} : Lit × DataW H → Nat
  | (.string bytes, d) => bytes.length + uptoBulk d + 1
  | (_, d) => uptoBulk d + 1
 end
def uptoSmall : (H : Type) → List (DataW H) → Bool := fun _ ds => decide (uptoBulkAll ds ≤ 1048576)
def OpenSpec.upto (s : _root_.Go.ChangeSpec) : _root_.Go.OpenSpec := { _root_.Go.OpenSpec.ofChange s with cond := some uptoSmall }

/-- 'weirgatelaw23.UnrollLong', WHERE WHAT IT READS IS OF BULK AT MOST 1048576: true; the input reads as it did. -/
def unrollLongUptoRow : OpenClaim := { program := "ytgpogemdoopdjaagreat", sum := "013c4a6907a15683129bc9edeb28ab411916049a954ab86b5338087b526170a7", func := "weirgate/weirgatelaw23.UnrollLong", spec := "unrollLong", unfollowed := true, recurses := true, plainKeys := false, apart := false, narrowed := true }
def UnrollLongUptoSaid : Prop := unrollLongUptoRow.holds Tryz.pinned (OpenSpec.upto unrollLongSpec)

/-- 'weirgatelaw24.BmcCounts', WHERE WHAT IT READS IS OF BULK AT MOST 1048576: true; the input reads as it did. -/
def bmcCountsUptoRow : OpenClaim := { program := "ytgpogemdoopdjaagreat", sum := "013c4a6907a15683129bc9edeb28ab411916049a954ab86b5338087b526170a7", func := "weirgate/weirgatelaw24.BmcCounts", spec := "bmcCounts", unfollowed := true, recurses := true, plainKeys := false, apart := false, narrowed := true }
def BmcCountsUptoSaid : Prop := bmcCountsUptoRow.holds Tryz.pinned (OpenSpec.upto bmcCountsSpec)

/-- 'weirgatelaw24.BmcHeld', WHERE WHAT IT READS IS OF BULK AT MOST 1048576: true; the input reads as it did. -/
def bmcHeldUptoRow : OpenClaim := { program := "ytgpogemdoopdjaagreat", sum := "013c4a6907a15683129bc9edeb28ab411916049a954ab86b5338087b526170a7", func := "weirgate/weirgatelaw24.BmcHeld", spec := "bmcHeld", unfollowed := true, recurses := true, plainKeys := false, apart := false, narrowed := true }
def BmcHeldUptoSaid : Prop := bmcHeldUptoRow.holds Tryz.pinned (OpenSpec.upto bmcHeldSpec)

/-- 'weirgatelaw25.InductCounts', WHERE WHAT IT READS IS OF BULK AT MOST 1048576: true; the input reads as it did. -/
def inductCountsUptoRow : OpenClaim := { program := "ytgpogemdoopdjaagreat", sum := "013c4a6907a15683129bc9edeb28ab411916049a954ab86b5338087b526170a7", func := "weirgate/weirgatelaw25.InductCounts", spec := "inductCounts", unfollowed := true, recurses := true, plainKeys := false, apart := false, narrowed := true }
def InductCountsUptoSaid : Prop := inductCountsUptoRow.holds Tryz.pinned (OpenSpec.upto inductCountsSpec)

end Rows
end Go.Proofs.YtgpogemdoopdjaaGreat
