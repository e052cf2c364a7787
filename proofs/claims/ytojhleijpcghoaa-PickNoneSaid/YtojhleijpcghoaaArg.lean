/-
  A slice of candidates that came in: the cells of each candidate hold numbers. Condition: the slice reads as data.
-/
import Derived.Test.YtojhleijpcghoaaAwk
import Derived.ProofKit
import Derived.OpenShut
import Derived.ChangeOld
import Derived.Deep.Slices
namespace Go.Proofs.Ytojhleijpcghoaa
open Go.ChangeShapes Go.WideShapes Go.ChangeAt Go.RowKit
set_option linter.unusedVariables false

instance : Inhabited Cd := ⟨Cd.zero⟩
theorem arg_own : ownKnob Try.prog.godebug = none := by kernel_rfl
theorem arg_laidOut : laidOutB Try.prog = true := by kernel_rfl
theorem arg_cells35 : Try.prog.cellsOf 35 = 4 := by kernel_rfl

theorem flatC_spot (l : List Cd) (j : Nat) (hj : j < l.length * 4) : ∃ k, k < l.length ∧
    ((j = k * 4 ∧ (flatC l)[j]? = some (.int .i64 (l.getD k Cd.zero).seg)) ∨ (j = k * 4 + 1 ∧ (flatC l)[j]? = some (.int .i64 (l.getD k Cd.zero).live)) ∨
     (j = k * 4 + 2 ∧ (flatC l)[j]? = some (.int .i64 (l.getD k Cd.zero).cap)) ∨ (j = k * 4 + 3 ∧ (flatC l)[j]? = some (.int .i64 (l.getD k Cd.zero).age))) := by
  refine ⟨j / 4, by omega, ?_⟩
  obtain ⟨h0, h1, h2, h3⟩ := flatC_at l (j / 4) (by omega)
  rcases (show j = j / 4 * 4 ∨ j = j / 4 * 4 + 1 ∨ j = j / 4 * 4 + 2 ∨ j = j / 4 * 4 + 3 by omega) with e | e | e | e
  · exact .inl ⟨e, by rw [← e] at h0; exact h0⟩
  · exact .inr (.inl ⟨e, by rw [← e] at h1; exact h1⟩)
  · exact .inr (.inr (.inl ⟨e, by rw [← e] at h2; exact h2⟩))
  · exact .inr (.inr (.inr ⟨e, by rw [← e] at h3; exact h3⟩))
theorem src_of_cds {w : World} {b off c : Nat} {l : List Cd} (h : CdsAt w (some ⟨b, off, none⟩) l) : Src w (some ⟨b, off, none⟩) l.length c (flatC l) := by
  refine .inr ⟨_, rfl, flatC_length l, fun j u hu => ?_⟩
  have hj : j < l.length * 4 := by rw [← flatC_length]; exact (List.getElem?_eq_some_iff.1 hu).1
  have e1 : (⟨b, off, none⟩ : Addr).add j = ⟨b, off + j, none⟩ := by unfold Addr.add; split <;> simp_all
  rw [e1]
  obtain ⟨k, hk, hs⟩ := flatC_spot l j hj
  obtain ⟨b1, off1, ha, z0, z1, z2, z3⟩ := h k hk
  injection ha with ha
  injection ha with x1 x2
  subst x1; subst x2
  rcases hs with ⟨e, hf⟩ | ⟨e, hf⟩ | ⟨e, hf⟩ | ⟨e, hf⟩
  · rw [hu] at hf; rw [hf, e]; exact z0
  · rw [hu] at hf; rw [hf, e, ← Nat.add_assoc]; exact z1
  · rw [hu] at hf; rw [hf, e, ← Nat.add_assoc]; exact z2
  · rw [hu] at hf; rw [hf, e, ← Nat.add_assoc]; exact z3

/-- What a slice of candidates that came in is. -/
def InAt (w : World) (a : Option Addr) (len cap : Nat) (l : List Cd) : Prop := l.length = len ∧ len ≤ maxLen ∧ cap ≤ maxLen ∧ len ≤ cap ∧ CdsAt w a l ∧ Src w a len cap (flatC l)

theorem cands_of {H : Type} {enc : TypeId × Value → H} {w : World} {spare : Nat → Bool} {held : Bool} {fuel : Nat} {a : Option Addr} {len cap : Nat} {x : DataW H × List MemPlace}
    (h : DataW.trod enc Try.prog w 0 spare held fuel 22 [.slice a len cap] = some x) : ∃ l, InAt w a len cap l := by
  rcases Go.Deep.open_slice Try.underlying22 h with ⟨hcs, _⟩ | ⟨b, l, c, m, n, D, Pl, hcs, _, hl, hm, hmm, _, hx⟩
  · simp at hcs
    obtain ⟨rfl, rfl, rfl⟩ := hcs
    exact ⟨[], rfl, Nat.zero_le _, Nat.zero_le _, Nat.le_refl _, CdsAt.nil _ _, .inl ⟨rfl, rfl, rfl, rfl⟩⟩
  · simp at hcs
    obtain ⟨rfl, rfl, rfl⟩ := hcs
    by_cases h0 : len = 0
    · subst h0
      exact ⟨[], rfl, Nat.zero_le _, by omega, by omega, CdsAt.nil _ _, .inr ⟨b, rfl, rfl, fun j u hu => by simp [flatC] at hu⟩⟩
    have each : ∀ k, k < len → ∃ c : Cd, w.cell? (b.add (k * 4)) = some (.int .i64 c.seg) ∧ w.cell? (b.add (k * 4 + 1)) = some (.int .i64 c.live) ∧
        w.cell? (b.add (k * 4 + 2)) = some (.int .i64 c.cap) ∧ w.cell? (b.add (k * 4 + 3)) = some (.int .i64 c.age) := by
      intro k hk
      have hkm : k < m := by rw [hmm]; split <;> omega
      obtain ⟨cs', h1, h2⟩ := hx k hkm
      rw [arg_cells35] at h1
      obtain ⟨_, hlen, hcell⟩ := World.cells?_some h1
      obtain ⟨xs, f, _, _, _, hxl, hf⟩ := DataW.trod_struct Try.underlying35 h2
      have one : ∀ j, j < 4 → ∀ y, DataW.trod enc Try.prog w 0 spare held f 3 ((cs'.drop j).take 1) = some y → ∃ z, cs'[j]? = some (.int .i64 z) := by
        intro j hj y hy
        obtain ⟨z, hz, _, _⟩ := DataW.trod_int Try.underlying3 hy
        refine ⟨z, ?_⟩
        have : (List.take 1 (List.drop j cs'))[0]? = some (.int .i64 z) := by rw [hz]; rfl
        simpa using this
      have g0 := hf 0 _ rfl
      rw [List.getElem?_eq_getElem (by rw [hxl]; decide)] at g0
      have g1 := hf 1 _ rfl
      rw [List.getElem?_eq_getElem (by rw [hxl]; decide)] at g1
      have g2 := hf 2 _ rfl
      rw [List.getElem?_eq_getElem (by rw [hxl]; decide)] at g2
      have g3 := hf 3 _ rfl
      rw [List.getElem?_eq_getElem (by rw [hxl]; decide)] at g3
      obtain ⟨z0, e0⟩ := one 0 (by omega) _ g0
      obtain ⟨z1, e1⟩ := one 1 (by omega) _ g1
      obtain ⟨z2, e2⟩ := one 2 (by omega) _ g2
      obtain ⟨z3, e3⟩ := one 3 (by omega) _ g3
      refine ⟨⟨z0, z1, z2, z3⟩, ?_, ?_, ?_, ?_⟩
      · rw [← e0, ← hcell 0 (by omega), Go.Deep.add_add, Nat.add_zero]
      · rw [← e1, ← hcell 1 (by omega), Go.Deep.add_add]
      · rw [← e2, ← hcell 2 (by omega), Go.Deep.add_add]
      · rw [← e3, ← hcell 3 (by omega), Go.Deep.add_add]
    have hspot : b.spot = none := by
      obtain ⟨c0, g0, _⟩ := each 0 (by omega)
      have g4 := World.cell?_spot g0
      simpa [Addr.add] using g4
    obtain ⟨f, hf⟩ := Go.Deep.choose_lt (α := Cd) each
    obtain ⟨bb, off, spot⟩ := b
    simp at hspot
    subst hspot
    have ea : ∀ j, (⟨bb, off, none⟩ : Addr).add j = ⟨bb, off + j, none⟩ := fun j => by unfold Addr.add; split <;> simp_all
    have hC : CdsAt w (some ⟨bb, off, none⟩) ((List.range len).map f) := by
      intro k hk
      have hk2 : k < len := by simpa using hk
      obtain ⟨q0, q1, q2, q3⟩ := hf k hk2
      rw [ea] at q0 q1 q2 q3
      have e : ((List.range len).map f).getD k Cd.zero = f k := by simp [List.getD_eq_getElem?_getD, hk2]
      rw [e]
      exact ⟨bb, off, rfl, q0, q1, q2, q3⟩
    have hS := src_of_cds (c := cap) hC
    rw [List.length_map, List.length_range] at hS
    exact ⟨_, by simp, by omega, hm, hl, hC, hS⟩
end Go.Proofs.Ytojhleijpcghoaa
