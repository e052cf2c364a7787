/-
  No cell of these rows narrows 'for every input' (looked for: loops, veiled, ifaces, maps, wideKeys, modest, calm, conditions, laid).
  DERIVED. THE GIVEN ROWS OF THIS SEAT. 5 by the template 'for every input the law returns true; each argument reads behind the call as it read before'; 0 by the template 'total and deterministic' (their statements: YtfjkdkkljfgboaaTotals.lean).
  GIVEN WITH THE SEED: the statements are not yours to turn. If you find one false, say at which input.
  Laid BY PROGRAM, IN A SANDBOX (cutbox-rows.mjs): the forced cells as the released guide's own fill.sh prints them over the translation d5e85dbdf7174a11… (all of the seat's roots in one cut). By AI agents, Wed Nov 11 2026. No macro, syntax, notation, axiom, sorry.
-/
import Derived.Test.YtfjkdkkljfgboaaChecked
import GoSem.Claim
import GoSem.ClaimJoined
import GoSem.ClaimMapViews
import Derived.JoinedTies
import Derived.KernelRfl
namespace Go.Proofs.Ytfjkdkkljfgboaa
/- THE CELL 'sum', in the pinned program and in every row, IS THE sha256 OF THE DUMP (.gsa) THAT YtfjkdkkljfgboaaProg.lean LOADS. Nothing in Lean hashes anything: it is a label: what it is worth is what the hold of that sum in a sandbox is worth. -/
noncomputable def Try.pinned : Pinned := { name := "ytfjkdkkljfgboaa", sum := "d5e85dbdf7174a11567d32afda73af1816232d8e844072c8bff187a7248b1445", checked := Try.checked }
namespace Rows
def none {H : Type} : Left H := { results := [], args := [] }

/-- 'marllaw10.UsageRounds': WHATEVER THE INPUT: true; the input reads as it did. -/
def usageRoundsSpec : ChangeSpec := { name := "usageRounds", fn := fun _ => fun
  | [d1, d2] => { results := [.lit (.bool true)], args := [d1, d2] }
  | _ => none }
def usageRoundsRow : OpenClaim := { program := "ytfjkdkkljfgboaa", sum := "d5e85dbdf7174a11567d32afda73af1816232d8e844072c8bff187a7248b1445", func := "marl/marllaw10.UsageRounds", spec := "usageRounds", unfollowed := true, recurses := true, apart := false }
def UsageRoundsSaid : Prop := usageRoundsRow.holds Try.pinned (OpenSpec.ofChange usageRoundsSpec)

/-- ITS FALSE NEIGHBOUR: 'it returns false'. Refute it at one input. -/
def usageRoundsWrong : ChangeSpec := { name := "usageRounds", fn := fun _ => fun
  | [d1, d2] => { results := [.lit (.bool false)], args := [d1, d2] }
  | _ => none }
def UsageRoundsWrongFalsely : Prop := usageRoundsRow.holds Try.pinned (OpenSpec.ofChange usageRoundsWrong)

/-- 'marllaw10.UsageSums': WHATEVER THE INPUT: true; the input reads as it did. -/
def usageSumsSpec : ChangeSpec := { name := "usageSums", fn := fun _ => fun
  | [d1, d2] => { results := [.lit (.bool true)], args := [d1, d2] }
  | _ => none }
def usageSumsRow : OpenClaim := { program := "ytfjkdkkljfgboaa", sum := "d5e85dbdf7174a11567d32afda73af1816232d8e844072c8bff187a7248b1445", func := "marl/marllaw10.UsageSums", spec := "usageSums", unfollowed := true, recurses := true, apart := false }
def UsageSumsSaid : Prop := usageSumsRow.holds Try.pinned (OpenSpec.ofChange usageSumsSpec)

/-- ITS FALSE NEIGHBOUR: 'it returns false'. Refute it at one input. -/
def usageSumsWrong : ChangeSpec := { name := "usageSums", fn := fun _ => fun
  | [d1, d2] => { results := [.lit (.bool false)], args := [d1, d2] }
  | _ => none }
def UsageSumsWrongFalsely : Prop := usageSumsRow.holds Try.pinned (OpenSpec.ofChange usageSumsWrong)

/-- 'marllaw10.UsageOnce': WHATEVER THE INPUT: true; the input reads as it did. -/
def usageOnceSpec : ChangeSpec := { name := "usageOnce", fn := fun _ => fun
  | [d1, d2] => { results := [.lit (.bool true)], args := [d1, d2] }
  | _ => none }
def usageOnceRow : OpenClaim := { program := "ytfjkdkkljfgboaa", sum := "d5e85dbdf7174a11567d32afda73af1816232d8e844072c8bff187a7248b1445", func := "marl/marllaw10.UsageOnce", spec := "usageOnce", unfollowed := true, recurses := true, apart := false }
def UsageOnceSaid : Prop := usageOnceRow.holds Try.pinned (OpenSpec.ofChange usageOnceSpec)

/-- ITS FALSE NEIGHBOUR: 'it returns false'. Refute it at one input. -/
def usageOnceWrong : ChangeSpec := { name := "usageOnce", fn := fun _ => fun
  | [d1, d2] => { results := [.lit (.bool false)], args := [d1, d2] }
  | _ => none }
def UsageOnceWrongFalsely : Prop := usageOnceRow.holds Try.pinned (OpenSpec.ofChange usageOnceWrong)

/-- 'marllaw10.UsageSweeps': WHATEVER THE INPUT: true; the input reads as it did. -/
def usageSweepsSpec : ChangeSpec := { name := "usageSweeps", fn := fun _ => fun
  | [d1, d2] => { results := [.lit (.bool true)], args := [d1, d2] }
  | _ => none }
def usageSweepsRow : OpenClaim := { program := "ytfjkdkkljfgboaa", sum := "d5e85dbdf7174a11567d32afda73af1816232d8e844072c8bff187a7248b1445", func := "marl/marllaw10.UsageSweeps", spec := "usageSweeps", unfollowed := true, recurses := true, apart := false }
def UsageSweepsSaid : Prop := usageSweepsRow.holds Try.pinned (OpenSpec.ofChange usageSweepsSpec)

/-- ITS FALSE NEIGHBOUR: 'it returns false'. Refute it at one input. -/
def usageSweepsWrong : ChangeSpec := { name := "usageSweeps", fn := fun _ => fun
  | [d1, d2] => { results := [.lit (.bool false)], args := [d1, d2] }
  | _ => none }
def UsageSweepsWrongFalsely : Prop := usageSweepsRow.holds Try.pinned (OpenSpec.ofChange usageSweepsWrong)

/-- 'marllaw10.UsagePlays': WHATEVER THE INPUT: true; the input reads as it did. -/
def usagePlaysSpec : ChangeSpec := { name := "usagePlays", fn := fun _ => fun
  | [d1, d2, d3] => { results := [.lit (.bool true)], args := [d1, d2, d3] }
  | _ => none }
def usagePlaysRow : OpenClaim := { program := "ytfjkdkkljfgboaa", sum := "d5e85dbdf7174a11567d32afda73af1816232d8e844072c8bff187a7248b1445", func := "marl/marllaw10.UsagePlays", spec := "usagePlays", unfollowed := true, recurses := true, apart := false }
def UsagePlaysSaid : Prop := usagePlaysRow.holds Try.pinned (OpenSpec.ofChange usagePlaysSpec)

/-- ITS FALSE NEIGHBOUR: 'it returns false'. Refute it at one input. -/
def usagePlaysWrong : ChangeSpec := { name := "usagePlays", fn := fun _ => fun
  | [d1, d2, d3] => { results := [.lit (.bool false)], args := [d1, d2, d3] }
  | _ => none }
def UsagePlaysWrongFalsely : Prop := usagePlaysRow.holds Try.pinned (OpenSpec.ofChange usagePlaysWrong)

/- THE SECOND FORM. 'bulk': how many values and letters a reading holds, each counted each time it is reached (what is shared counts as often as it is met; a slice's spare places count too). A statement '..UptoSaid' is the law's where the arguments, and the package variables that the reading takes, are together of bulk at most 1048576: NARROWER than '..Said'. Prove '..Said' where nothing that the law and all that it calls make is longer than what came in: it says more and counts as full. Else prove '..UptoSaid'. A law counts once. -/
mutual
def uptoBulk {H : Type} : DataW H → Nat
  | .lit (.string bytes) => bytes.length + 1
  | .lit _ => 1
  | .nil => 1
  | .ptr d => uptoBulk d + 1
  | .slice elems spare => uptoBulkAll elems + uptoBulkAll spare + 1
  | .agg parts => uptoBulkAll parts + 1
  | .iface _ d => uptoBulk d + 1
  | .map entries => uptoBulkEntries entries + 1
  | .held _ => 1
def uptoBulkAll {H : Type} : List (DataW H) → Nat
  | [] => 0
  | d :: r => uptoBulk d + uptoBulkAll r
def uptoBulkEntries {H : Type} : List (Lit × DataW H) → Nat
  | [] => 0
  | x :: r => uptoBulkEntry x + uptoBulkEntries r
def uptoBulkEntry {H : Type} : Lit × DataW H → Nat
  | (.string bytes, d) => bytes.length + uptoBulk d + 1
  | (_, d) => uptoBulk d + 1
 end
def uptoSmall : (H : Type) → List (DataW H) → Bool := fun _ ds => decide (uptoBulkAll ds ≤ 1048576)
def OpenSpec.upto (s : _root_.Go.ChangeSpec) : _root_.Go.OpenSpec := { _root_.Go.OpenSpec.ofChange s with cond := some uptoSmall }

/-- 'marllaw10.UsageRounds', WHERE WHAT IT READS IS OF BULK AT MOST 1048576: true; the input reads as it did. -/
def usageRoundsUptoRow : OpenClaim := { program := "ytfjkdkkljfgboaa", sum := "d5e85dbdf7174a11567d32afda73af1816232d8e844072c8bff187a7248b1445", func := "marl/marllaw10.UsageRounds", spec := "usageRounds", unfollowed := true, recurses := true, apart := false, narrowed := true }
def UsageRoundsUptoSaid : Prop := usageRoundsUptoRow.holds Try.pinned (OpenSpec.upto usageRoundsSpec)

/-- 'marllaw10.UsageSums', WHERE WHAT IT READS IS OF BULK AT MOST 1048576: true; the input reads as it did. -/
def usageSumsUptoRow : OpenClaim := { program := "ytfjkdkkljfgboaa", sum := "d5e85dbdf7174a11567d32afda73af1816232d8e844072c8bff187a7248b1445", func := "marl/marllaw10.UsageSums", spec := "usageSums", unfollowed := true, recurses := true, apart := false, narrowed := true }
def UsageSumsUptoSaid : Prop := usageSumsUptoRow.holds Try.pinned (OpenSpec.upto usageSumsSpec)

/-- 'marllaw10.UsageOnce', WHERE WHAT IT READS IS OF BULK AT MOST 1048576: true; the input reads as it did. -/
def usageOnceUptoRow : OpenClaim := { program := "ytfjkdkkljfgboaa", sum := "d5e85dbdf7174a11567d32afda73af1816232d8e844072c8bff187a7248b1445", func := "marl/marllaw10.UsageOnce", spec := "usageOnce", unfollowed := true, recurses := true, apart := false, narrowed := true }
def UsageOnceUptoSaid : Prop := usageOnceUptoRow.holds Try.pinned (OpenSpec.upto usageOnceSpec)

/-- 'marllaw10.UsageSweeps', WHERE WHAT IT READS IS OF BULK AT MOST 1048576: true; the input reads as it did. -/
def usageSweepsUptoRow : OpenClaim := { program := "ytfjkdkkljfgboaa", sum := "d5e85dbdf7174a11567d32afda73af1816232d8e844072c8bff187a7248b1445", func := "marl/marllaw10.UsageSweeps", spec := "usageSweeps", unfollowed := true, recurses := true, apart := false, narrowed := true }
def UsageSweepsUptoSaid : Prop := usageSweepsUptoRow.holds Try.pinned (OpenSpec.upto usageSweepsSpec)

/-- 'marllaw10.UsagePlays', WHERE WHAT IT READS IS OF BULK AT MOST 1048576: true; the input reads as it did. -/
def usagePlaysUptoRow : OpenClaim := { program := "ytfjkdkkljfgboaa", sum := "d5e85dbdf7174a11567d32afda73af1816232d8e844072c8bff187a7248b1445", func := "marl/marllaw10.UsagePlays", spec := "usagePlays", unfollowed := true, recurses := true, apart := false, narrowed := true }
def UsagePlaysUptoSaid : Prop := usagePlaysUptoRow.holds Try.pinned (OpenSpec.upto usagePlaysSpec)

end Rows
end Go.Proofs.Ytfjkdkkljfgboaa
