/-
  No cell of these rows narrows 'for every input' (looked for: loops, veiled, ifaces, maps, wideKeys, modest, calm, conditions, laid).
  DERIVED. THE GIVEN ROWS OF THIS SEAT. 6 by the template 'for every input the law returns true; each argument reads behind the call as it read before'; 0 by the template 'total and deterministic' (their statements: YtojhleijpcghoaaTotals.lean).
  GIVEN WITH THE SEED: the statements are not yours to turn. If you find one false, say at which input.
  Laid BY PROGRAM, IN A SANDBOX (cutbox-rows.mjs): the forced cells as the released guide's own fill.sh prints them over the translation 2a2c5550419d72a6… (all of the seat's roots in one cut). By AI agents, Wed Nov 11 2026. No macro, syntax, notation, axiom, sorry.
-/
import Derived.Test.YtojhleijpcghoaaChecked
import GoSem.Claim
import GoSem.ClaimJoined
import GoSem.ClaimMapViews
import Derived.JoinedTies
import Derived.KernelRfl
namespace Go.Proofs.Ytojhleijpcghoaa
/- THE CELL 'sum', in the pinned program and in every row, IS THE sha256 OF THE DUMP (.gsa) THAT YtojhleijpcghoaaProg.lean LOADS. Nothing in Lean hashes anything: it is a label: what it is worth is what the hold of that sum in a sandbox is worth. -/
noncomputable def Try.pinned : Pinned := { name := "ytojhleijpcghoaa", sum := "2a2c5550419d72a670f697cf2cfe82acb5e46b00db55355d6d2c3d3596b3149f", checked := Try.checked }
namespace Rows
def none {H : Type} : Left H := { results := [], args := [] }

/-- 'marllaw12.PickBest': WHATEVER THE INPUT: true; the input reads as it did. -/
def pickBestSpec : ChangeSpec := { name := "pickBest", fn := fun _ => fun
  | [d1, d2] => { results := [.lit (.bool true)], args := [d1, d2] }
  | _ => none }
def pickBestRow : OpenClaim := { program := "ytojhleijpcghoaa", sum := "2a2c5550419d72a670f697cf2cfe82acb5e46b00db55355d6d2c3d3596b3149f", func := "marl/marllaw12.PickBest", spec := "pickBest", unfollowed := true, recurses := true, apart := false }
def PickBestSaid : Prop := pickBestRow.holds Try.pinned (OpenSpec.ofChange pickBestSpec)

/-- ITS FALSE NEIGHBOUR: 'it returns false'. Refute it at one input. -/
def pickBestWrong : ChangeSpec := { name := "pickBest", fn := fun _ => fun
  | [d1, d2] => { results := [.lit (.bool false)], args := [d1, d2] }
  | _ => none }
def PickBestWrongFalsely : Prop := pickBestRow.holds Try.pinned (OpenSpec.ofChange pickBestWrong)

/-- 'marllaw12.PickOrders': WHATEVER THE INPUT: true; the input reads as it did. -/
def pickOrdersSpec : ChangeSpec := { name := "pickOrders", fn := fun _ => fun
  | [d1, d2, d3] => { results := [.lit (.bool true)], args := [d1, d2, d3] }
  | _ => none }
def pickOrdersRow : OpenClaim := { program := "ytojhleijpcghoaa", sum := "2a2c5550419d72a670f697cf2cfe82acb5e46b00db55355d6d2c3d3596b3149f", func := "marl/marllaw12.PickOrders", spec := "pickOrders", unfollowed := true, recurses := true, apart := false }
def PickOrdersSaid : Prop := pickOrdersRow.holds Try.pinned (OpenSpec.ofChange pickOrdersSpec)

/-- ITS FALSE NEIGHBOUR: 'it returns false'. Refute it at one input. -/
def pickOrdersWrong : ChangeSpec := { name := "pickOrders", fn := fun _ => fun
  | [d1, d2, d3] => { results := [.lit (.bool false)], args := [d1, d2, d3] }
  | _ => none }
def PickOrdersWrongFalsely : Prop := pickOrdersRow.holds Try.pinned (OpenSpec.ofChange pickOrdersWrong)

/-- 'marllaw12.PickNone': WHATEVER THE INPUT: true; the input reads as it did. -/
def pickNoneSpec : ChangeSpec := { name := "pickNone", fn := fun _ => fun
  | [d1, d2] => { results := [.lit (.bool true)], args := [d1, d2] }
  | _ => none }
def pickNoneRow : OpenClaim := { program := "ytojhleijpcghoaa", sum := "2a2c5550419d72a670f697cf2cfe82acb5e46b00db55355d6d2c3d3596b3149f", func := "marl/marllaw12.PickNone", spec := "pickNone", unfollowed := true, recurses := true, apart := false }
def PickNoneSaid : Prop := pickNoneRow.holds Try.pinned (OpenSpec.ofChange pickNoneSpec)

/-- ITS FALSE NEIGHBOUR: 'it returns false'. Refute it at one input. -/
def pickNoneWrong : ChangeSpec := { name := "pickNone", fn := fun _ => fun
  | [d1, d2] => { results := [.lit (.bool false)], args := [d1, d2] }
  | _ => none }
def PickNoneWrongFalsely : Prop := pickNoneRow.holds Try.pinned (OpenSpec.ofChange pickNoneWrong)

/-- 'marllaw12.PickUntil': WHATEVER THE INPUT: true; the input reads as it did. -/
def pickUntilSpec : ChangeSpec := { name := "pickUntil", fn := fun _ => fun
  | [d1, d2] => { results := [.lit (.bool true)], args := [d1, d2] }
  | _ => none }
def pickUntilRow : OpenClaim := { program := "ytojhleijpcghoaa", sum := "2a2c5550419d72a670f697cf2cfe82acb5e46b00db55355d6d2c3d3596b3149f", func := "marl/marllaw12.PickUntil", spec := "pickUntil", unfollowed := true, recurses := true, apart := false }
def PickUntilSaid : Prop := pickUntilRow.holds Try.pinned (OpenSpec.ofChange pickUntilSpec)

/-- ITS FALSE NEIGHBOUR: 'it returns false'. Refute it at one input. -/
def pickUntilWrong : ChangeSpec := { name := "pickUntil", fn := fun _ => fun
  | [d1, d2] => { results := [.lit (.bool false)], args := [d1, d2] }
  | _ => none }
def PickUntilWrongFalsely : Prop := pickUntilRow.holds Try.pinned (OpenSpec.ofChange pickUntilWrong)

/-- 'marllaw12.PickEnough': WHATEVER THE INPUT: true; the input reads as it did. -/
def pickEnoughSpec : ChangeSpec := { name := "pickEnough", fn := fun _ => fun
  | [d1, d2] => { results := [.lit (.bool true)], args := [d1, d2] }
  | _ => none }
def pickEnoughRow : OpenClaim := { program := "ytojhleijpcghoaa", sum := "2a2c5550419d72a670f697cf2cfe82acb5e46b00db55355d6d2c3d3596b3149f", func := "marl/marllaw12.PickEnough", spec := "pickEnough", unfollowed := true, recurses := true, apart := false }
def PickEnoughSaid : Prop := pickEnoughRow.holds Try.pinned (OpenSpec.ofChange pickEnoughSpec)

/-- ITS FALSE NEIGHBOUR: 'it returns false'. Refute it at one input. -/
def pickEnoughWrong : ChangeSpec := { name := "pickEnough", fn := fun _ => fun
  | [d1, d2] => { results := [.lit (.bool false)], args := [d1, d2] }
  | _ => none }
def PickEnoughWrongFalsely : Prop := pickEnoughRow.holds Try.pinned (OpenSpec.ofChange pickEnoughWrong)

/-- 'marllaw12.PickTurned': WHATEVER THE INPUT: true; the input reads as it did. -/
def pickTurnedSpec : ChangeSpec := { name := "pickTurned", fn := fun _ => fun
  | [d1, d2, d3] => { results := [.lit (.bool true)], args := [d1, d2, d3] }
  | _ => none }
def pickTurnedRow : OpenClaim := { program := "ytojhleijpcghoaa", sum := "2a2c5550419d72a670f697cf2cfe82acb5e46b00db55355d6d2c3d3596b3149f", func := "marl/marllaw12.PickTurned", spec := "pickTurned", unfollowed := true, recurses := true, apart := false }
def PickTurnedSaid : Prop := pickTurnedRow.holds Try.pinned (OpenSpec.ofChange pickTurnedSpec)

/-- ITS FALSE NEIGHBOUR: 'it returns false'. Refute it at one input. -/
def pickTurnedWrong : ChangeSpec := { name := "pickTurned", fn := fun _ => fun
  | [d1, d2, d3] => { results := [.lit (.bool false)], args := [d1, d2, d3] }
  | _ => none }
def PickTurnedWrongFalsely : Prop := pickTurnedRow.holds Try.pinned (OpenSpec.ofChange pickTurnedWrong)

/- THE SECOND FORM. 'bulk': how many values and letters a reading holds, each counted each time it is reached (what is shared counts as often as it is met; a slice's spare places count too). A statement '..UptoSaid' is the law's where the arguments, and the package variables that the reading takes, are together of bulk at most 1048576: NARROWER than '..Said'. Prove '..Said' where nothing that the law and all that it calls make is longer than what came in: it says more and counts as full. Else prove '..UptoSaid'. A law counts once. -/
mutual
def uptoBulk {H : Type} : DataW H → Nat
  | .lit (.string bytes) => bytes.length + 1
  | .lit _ => 1
  | .nil => 1
  | .ptr d => uptoBulk d + 1
  | .slice elems spare => uptoBulkAll elems + uptoBulkAll spare + 1
  | .agg parts => uptoBulkAll parts + 1
  | .iface _ d => uptoBulk d + 1
  | .map entries => uptoBulkEntries entries + 1
  | .held _ => 1
def uptoBulkAll {H : Type} : List (DataW H) → Nat
  | [] => 0
  | d :: r => uptoBulk d + uptoBulkAll r
def uptoBulkEntries {H : Type} : List (Lit × DataW H) → Nat
  | [] => 0
  | x :: r => uptoBulkEntry x + uptoBulkEntries r
def uptoBulkEntry {H : Type} : Lit × DataW H → Nat
  | (.string bytes, d) => bytes.length + uptoBulk d + 1
  | (_, d) => uptoBulk d + 1
 end
def uptoSmall : (H : Type) → List (DataW H) → Bool := fun _ ds => decide (uptoBulkAll ds ≤ 1048576)
def OpenSpec.upto (s : _root_.Go.ChangeSpec) : _root_.Go.OpenSpec := { _root_.Go.OpenSpec.ofChange s with cond := some uptoSmall }

/-- 'marllaw12.PickBest', WHERE WHAT IT READS IS OF BULK AT MOST 1048576: true; the input reads as it did. -/
def pickBestUptoRow : OpenClaim := { program := "ytojhleijpcghoaa", sum := "2a2c5550419d72a670f697cf2cfe82acb5e46b00db55355d6d2c3d3596b3149f", func := "marl/marllaw12.PickBest", spec := "pickBest", unfollowed := true, recurses := true, apart := false, narrowed := true }
def PickBestUptoSaid : Prop := pickBestUptoRow.holds Try.pinned (OpenSpec.upto pickBestSpec)

/-- 'marllaw12.PickOrders', WHERE WHAT IT READS IS OF BULK AT MOST 1048576: true; the input reads as it did. -/
def pickOrdersUptoRow : OpenClaim := { program := "ytojhleijpcghoaa", sum := "2a2c5550419d72a670f697cf2cfe82acb5e46b00db55355d6d2c3d3596b3149f", func := "marl/marllaw12.PickOrders", spec := "pickOrders", unfollowed := true, recurses := true, apart := false, narrowed := true }
def PickOrdersUptoSaid : Prop := pickOrdersUptoRow.holds Try.pinned (OpenSpec.upto pickOrdersSpec)

/-- 'marllaw12.PickNone', WHERE WHAT IT READS IS OF BULK AT MOST 1048576: true; the input reads as it did. -/
def pickNoneUptoRow : OpenClaim := { program := "ytojhleijpcghoaa", sum := "2a2c5550419d72a670f697cf2cfe82acb5e46b00db55355d6d2c3d3596b3149f", func := "marl/marllaw12.PickNone", spec := "pickNone", unfollowed := true, recurses := true, apart := false, narrowed := true }
def PickNoneUptoSaid : Prop := pickNoneUptoRow.holds Try.pinned (OpenSpec.upto pickNoneSpec)

/-- 'marllaw12.PickUntil', WHERE WHAT IT READS IS OF BULK AT MOST 1048576: true; the input reads as it did. -/
def pickUntilUptoRow : OpenClaim := { program := "ytojhleijpcghoaa", sum := "2a2c5550419d72a670f697cf2cfe82acb5e46b00db55355d6d2c3d3596b3149f", func := "marl/marllaw12.PickUntil", spec := "pickUntil", unfollowed := true, recurses := true, apart := false, narrowed := true }
def PickUntilUptoSaid : Prop := pickUntilUptoRow.holds Try.pinned (OpenSpec.upto pickUntilSpec)

/-- 'marllaw12.PickEnough', WHERE WHAT IT READS IS OF BULK AT MOST 1048576: true; the input reads as it did. -/
def pickEnoughUptoRow : OpenClaim := { program := "ytojhleijpcghoaa", sum := "2a2c5550419d72a670f697cf2cfe82acb5e46b00db55355d6d2c3d3596b3149f", func := "marl/marllaw12.PickEnough", spec := "pickEnough", unfollowed := true, recurses := true, apart := false, narrowed := true }
def PickEnoughUptoSaid : Prop := pickEnoughUptoRow.holds Try.pinned (OpenSpec.upto pickEnoughSpec)

/-- 'marllaw12.PickTurned', WHERE WHAT IT READS IS OF BULK AT MOST 1048576: true; the input reads as it did. -/
def pickTurnedUptoRow : OpenClaim := { program := "ytojhleijpcghoaa", sum := "2a2c5550419d72a670f697cf2cfe82acb5e46b00db55355d6d2c3d3596b3149f", func := "marl/marllaw12.PickTurned", spec := "pickTurned", unfollowed := true, recurses := true, apart := false, narrowed := true }
def PickTurnedUptoSaid : Prop := pickTurnedUptoRow.holds Try.pinned (OpenSpec.upto pickTurnedSpec)

end Rows
end Go.Proofs.Ytojhleijpcghoaa
