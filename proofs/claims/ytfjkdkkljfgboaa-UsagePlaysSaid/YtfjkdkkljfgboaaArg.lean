/-
  A slice of ops that came in: the cells of each op hold numbers. Condition: the slice reads as data.
-/
import Derived.Test.YtfjkdkkljfgboaaSumsW
import Derived.ProofKit
import Derived.OpenShut
import Derived.ChangeOld
import Derived.Deep.Slices
namespace Go.Proofs.Ytfjkdkkljfgboaa
open Go.ChangeShapes Go.WideShapes Go.ChangeAt Go.RowKit
set_option linter.unusedVariables false

theorem arg_own : ownKnob Try.prog.godebug = none := by kernel_rfl
theorem arg_laidOut : laidOutB Try.prog = true := by kernel_rfl
theorem arg_cells46 : Try.prog.cellsOf 46 = 3 := by kernel_rfl
theorem arg_cells3 : Try.prog.cellsOf 3 = 1 := by kernel_rfl

theorem ops_of {H : Type} {enc : TypeId × Value → H} {w : World} {spare : Nat → Bool} {held : Bool} {fuel : Nat} {a : Option Addr} {len cap : Nat} {x : DataW H × List MemPlace}
    (h : DataW.trod enc Try.prog w 0 spare held fuel 43 [.slice a len cap] = some x) : len ≤ maxLen ∧ IntRows w a len 3 := by
  rcases Go.Deep.open_slice Try.underlying43 h with ⟨hcs, _⟩ | ⟨b, l, c, m, n, D, Pl, hcs, _, hl, hm, hmm, _, hx⟩
  · simp at hcs
    obtain ⟨rfl, rfl, rfl⟩ := hcs
    exact ⟨Nat.zero_le _, fun k hk => absurd hk (Nat.not_lt_zero _)⟩
  · simp at hcs
    obtain ⟨rfl, rfl, rfl⟩ := hcs
    refine ⟨by omega, fun k hk => ?_⟩
    have hkm : k < m := by rw [hmm]; split <;> omega
    obtain ⟨cs', h1, h2⟩ := hx k hkm
    rw [arg_cells46] at h1
    obtain ⟨_, hlen, hcell⟩ := World.cells?_some h1
    obtain ⟨xs, f, _, _, _, hxl, hf⟩ := DataW.trod_struct Try.underlying46 h2
    have one : ∀ j, j < 3 → ∀ y, DataW.trod enc Try.prog w 0 spare held f 3 ((cs'.drop j).take 1) = some y → ∃ z, cs'[j]? = some (.int .i64 z) := by
      intro j hj y hy
      obtain ⟨z, hz, _, _⟩ := DataW.trod_int Try.underlying3 hy
      refine ⟨z, ?_⟩
      have : (List.take 1 (List.drop j cs'))[0]? = some (.int .i64 z) := by rw [hz]; rfl
      simpa using this
    have each : ∀ j, j < 3 → ∃ y, cs'[j]? = some (.int .i64 y) := by
      intro j hj
      match j, hj with
      | 0, _ =>
        have g := hf 0 _ rfl
        rw [List.getElem?_eq_getElem (by rw [hxl]; decide)] at g
        exact one 0 (by omega) _ g
      | 1, _ =>
        have g := hf 1 _ rfl
        rw [List.getElem?_eq_getElem (by rw [hxl]; decide)] at g
        exact one 1 (by omega) _ g
      | 2, _ =>
        have g := hf 2 _ rfl
        rw [List.getElem?_eq_getElem (by rw [hxl]; decide)] at g
        exact one 2 (by omega) _ g
    obtain ⟨f, hf⟩ := Go.Deep.choose_lt (α := Int) each
    have hspot : b.spot = none := by
      obtain ⟨c0, g1, g2⟩ := hx 0 (by omega)
      rw [arg_cells46] at g1
      obtain ⟨_, glen, gcell⟩ := World.cells?_some g1
      have g3 := gcell 0 (by omega)
      rw [List.getElem?_eq_getElem (by omega)] at g3
      have g4 := World.cell?_spot g3
      simpa [Addr.add] using g4
    obtain ⟨bb, off, spot⟩ := b
    simp at hspot
    subst hspot
    refine ⟨bb, off, rfl, f, fun j hj => ?_⟩
    rw [← hf j hj, ← hcell j hj, Go.Deep.add_add]
    unfold Addr.add
    by_cases h0 : k * 3 + j = 0
    · rw [if_pos h0, h0, Nat.add_zero]
    · rw [if_neg h0]
end Go.Proofs.Ytfjkdkkljfgboaa
