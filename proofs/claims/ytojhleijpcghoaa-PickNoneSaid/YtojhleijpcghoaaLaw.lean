/-
  Plain facts: who is better is an order; the heap's pops come in that order, which is the document's. Conditions: candidates within their bounds.
-/
import Derived.Test.YtojhleijpcghoaaRfc
namespace Go.Proofs.Ytojhleijpcghoaa
open Go.RowKit
set_option linter.unusedVariables false

/-! ### Benefits go through -/
theorem mul3 (a b c : Int) : a * b * c = b * (a * c) := by rw [Int.mul_comm a b, Int.mul_assoc]
/-- Fractions compare across: a weak step and a weak step. -/
theorem frac_le {n1 d1 n2 d2 n3 d3 : Int} (h1 : 0 < d1) (h2 : 0 < d2) (h3 : 0 < d3) (a : n2 * d1 ≤ n1 * d2) (b : n3 * d2 ≤ n2 * d3) : n3 * d1 ≤ n1 * d3 := by
  have e1 : n2 * d1 * d3 ≤ n1 * d2 * d3 := Int.mul_le_mul_of_nonneg_right a (by omega)
  have e2 : n3 * d2 * d1 ≤ n2 * d3 * d1 := Int.mul_le_mul_of_nonneg_right b (by omega)
  have e3 : n2 * d1 * d3 = n2 * d3 * d1 := by rw [Int.mul_assoc, Int.mul_comm d1 d3, ← Int.mul_assoc]
  have e4 : n3 * d2 * d1 = d2 * (n3 * d1) := mul3 _ _ _
  have e5 : n1 * d2 * d3 = d2 * (n1 * d3) := mul3 _ _ _
  rw [e3, e5] at e1
  rw [e4] at e2
  exact Int.le_of_mul_le_mul_left (Int.le_trans e2 e1) h2
theorem frac_lt {n1 d1 n2 d2 n3 d3 : Int} (h1 : 0 < d1) (h2 : 0 < d2) (h3 : 0 < d3) (a : n2 * d1 < n1 * d2) (b : n3 * d2 ≤ n2 * d3) : n3 * d1 < n1 * d3 := by
  have e1 : n2 * d1 * d3 < n1 * d2 * d3 := Int.mul_lt_mul_of_pos_right a (by omega)
  have e2 : n3 * d2 * d1 ≤ n2 * d3 * d1 := Int.mul_le_mul_of_nonneg_right b (by omega)
  have e3 : n2 * d1 * d3 = n2 * d3 * d1 := by rw [Int.mul_assoc, Int.mul_comm d1 d3, ← Int.mul_assoc]
  have e4 : n3 * d2 * d1 = d2 * (n3 * d1) := mul3 _ _ _
  have e5 : n1 * d2 * d3 = d2 * (n1 * d3) := mul3 _ _ _
  rw [e3, e5] at e1
  rw [e4] at e2
  exact Int.lt_of_mul_lt_mul_left (Int.lt_of_le_of_lt e2 e1) (by omega)
theorem frac_lt2 {n1 d1 n2 d2 n3 d3 : Int} (h1 : 0 < d1) (h2 : 0 < d2) (h3 : 0 < d3) (a : n2 * d1 ≤ n1 * d2) (b : n3 * d2 < n2 * d3) : n3 * d1 < n1 * d3 := by
  have e1 : n2 * d1 * d3 ≤ n1 * d2 * d3 := Int.mul_le_mul_of_nonneg_right a (by omega)
  have e2 : n3 * d2 * d1 < n2 * d3 * d1 := Int.mul_lt_mul_of_pos_right b (by omega)
  have e3 : n2 * d1 * d3 = n2 * d3 * d1 := by rw [Int.mul_assoc, Int.mul_comm d1 d3, ← Int.mul_assoc]
  have e4 : n3 * d2 * d1 = d2 * (n3 * d1) := mul3 _ _ _
  have e5 : n1 * d2 * d3 = d2 * (n1 * d3) := mul3 _ _ _
  rw [e3, e5] at e1
  rw [e4] at e2
  exact Int.lt_of_mul_lt_mul_left (Int.lt_of_lt_of_le e2 e1) (by omega)

theorem ben_le {x y z : Cd} (hx : Gd x) (hy : Gd y) (hz : Gd z) (a : ben y x ≤ ben x y) (b : ben z y ≤ ben y z) : ben z x ≤ ben x z :=
  frac_le (d1 := x.cap + x.live) (d2 := y.cap + y.live) (d3 := z.cap + z.live) (by have := hx.c1; have := hx.l1; omega) (by have := hy.c1; have := hy.l1; omega) (by have := hz.c1; have := hz.l1; omega) a b
theorem ben_lt {x y z : Cd} (hx : Gd x) (hy : Gd y) (hz : Gd z) (a : ben y x < ben x y) (b : ben z y ≤ ben y z) : ben z x < ben x z :=
  frac_lt (d1 := x.cap + x.live) (d2 := y.cap + y.live) (d3 := z.cap + z.live) (by have := hx.c1; have := hx.l1; omega) (by have := hy.c1; have := hy.l1; omega) (by have := hz.c1; have := hz.l1; omega) a b
theorem ben_lt2 {x y z : Cd} (hx : Gd x) (hy : Gd y) (hz : Gd z) (a : ben y x ≤ ben x y) (b : ben z y < ben y z) : ben z x < ben x z :=
  frac_lt2 (d1 := x.cap + x.live) (d2 := y.cap + y.live) (d3 := z.cap + z.live) (by have := hx.c1; have := hx.l1; omega) (by have := hy.c1; have := hy.l1; omega) (by have := hz.c1; have := hz.l1; omega) a b

/-! ### The order of candidates -/
theorem bet_iff (x y : Cd) : betC x y = true ↔ ben y x < ben x y ∨ (ben y x = ben x y ∧ (x.live < y.live ∨ (x.live = y.live ∧ x.seg < y.seg))) := by
  rw [betC_eq]
  split
  · simp only [decide_eq_true_eq]; omega
  · split
    · simp only [decide_eq_true_eq]; omega
    · simp only [decide_eq_true_eq]; omega
theorem less_iff (x y : Pl) : lessP x y = true ↔ betC x.c y.c = true ∨ (betC y.c x.c = false ∧ x.at_ < y.at_) := by
  have h1 := bet_iff x.c y.c
  have h2 := bet_iff y.c x.c
  have h3 : betC y.c x.c = false ↔ ¬ betC y.c x.c = true := by simp
  rw [h3, h1, h2]
  unfold lessP cmpP cmpC orI cmpI
  simp only [decide_eq_true_eq]
  repeat' split
  all_goals omega
theorem bet_asymm {x y : Cd} (h : betC x y = true) : betC y x = false := by
  have h1 := (bet_iff x y).1 h
  rw [Bool.eq_false_iff]
  intro h2
  have h3 := (bet_iff y x).1 h2
  omega
theorem bet_irrefl (x : Cd) : betC x x = false := by
  rw [Bool.eq_false_iff]
  intro h
  have := (bet_iff x x).1 h
  omega
theorem bet_trans {x y z : Cd} (hx : Gd x) (hy : Gd y) (hz : Gd z) (a : betC x y = true) (b : betC y z = true) : betC x z = true := by
  rw [bet_iff] at *
  rcases a with a | ⟨a, a2⟩
  · rcases b with b | ⟨b, b2⟩
    · exact .inl (ben_lt hx hy hz a (by omega))
    · exact .inl (ben_lt hx hy hz a (by omega))
  · rcases b with b | ⟨b, b2⟩
    · exact .inl (ben_lt2 hx hy hz (by omega) b)
    · have e1 := ben_le hx hy hz (by omega) (by omega)
      have e2 := ben_le hz hy hx (by omega) (by omega)
      exact .inr ⟨by omega, by omega⟩
/-- Not worse goes through. -/
theorem bet_neg {x y z : Cd} (hx : Gd x) (hy : Gd y) (hz : Gd z) (a : betC y x = false) (b : betC z y = false) : betC z x = false := by
  rw [Bool.eq_false_iff] at *
  intro h
  rw [Ne, bet_iff] at a b
  rw [bet_iff] at h
  have a1 : ben y x ≤ ben x y := by omega
  have b1 : ben z y ≤ ben y z := by omega
  have c1 := ben_le hx hy hz a1 b1
  rcases h with h | ⟨h, h2⟩
  · omega
  · have a3 : ¬ ben y x < ben x y := fun l => by have := ben_lt hx hy hz l b1; omega
    have b3 : ¬ ben z y < ben y z := fun l => by have := ben_lt2 hx hy hz a1 l; omega
    omega

/-! ### The order of candidates with their places -/
/-- Not behind. -/
def leP (x y : Pl) : Prop := lessP y x = false
theorem le_iff (x y : Pl) : leP x y ↔ betC y.c x.c = false ∧ (betC x.c y.c = true ∨ x.at_ ≤ y.at_) := by
  unfold leP
  have h := less_iff y x
  constructor
  · intro e
    have h2 : ¬ (betC y.c x.c = true ∨ (betC x.c y.c = false ∧ y.at_ < x.at_)) := fun k => by rw [h.2 k] at e; simp at e
    refine ⟨by rw [Bool.eq_false_iff]; exact fun k => h2 (.inl k), ?_⟩
    cases hb : betC x.c y.c with
    | true => exact .inl rfl
    | false => exact .inr (Int.not_lt.1 fun k => h2 (.inr ⟨hb, k⟩))
  · rintro ⟨h1, h2⟩
    rw [Bool.eq_false_iff]
    intro k
    rcases h.1 k with k | ⟨k1, k2⟩
    · rw [h1] at k; simp at k
    · rcases h2 with h2 | h2
      · rw [k1] at h2; simp at h2
      · omega
theorem le_trans {x y z : Pl} (hx : Gd x.c) (hy : Gd y.c) (hz : Gd z.c) (a : leP x y) (b : leP y z) : leP x z := by
  rw [le_iff] at *
  obtain ⟨a1, a2⟩ := a
  obtain ⟨b1, b2⟩ := b
  refine ⟨bet_neg hx hy hz a1 b1, ?_⟩
  cases h : betC x.c z.c with
  | true => exact .inl rfl
  | false =>
    refine .inr ?_
    rcases a2 with a2 | a2
    · have := bet_neg hy hx hz
      -- x is better than y, y isn't behind z: x is better than z
      have h3 : betC x.c z.c = true := by
        cases hb : betC y.c z.c with
        | true => exact bet_trans hx hy hz a2 hb
        | false =>
          cases hq : betC x.c z.c with
          | true => rfl
          | false =>
            have := bet_neg hy hz hx b1 hq
            rw [this] at a2
            simp at a2
      rw [h] at h3
      simp at h3
    · rcases b2 with b2 | b2
      · have h3 : betC x.c z.c = true := by
          cases hq : betC x.c z.c with
          | true => rfl
          | false =>
            have := bet_neg hz hx hy hq a1
            rw [this] at b2
            simp at b2
        rw [h] at h3
        simp at h3
      · omega
theorem le_of_less {x y : Pl} (h : lessP x y = true) : leP x y := by
  rw [le_iff]
  rcases (less_iff x y).1 h with h | ⟨h1, h2⟩
  · exact ⟨bet_asymm h, .inl h⟩
  · exact ⟨h1, .inr (by omega)⟩
theorem le_antisymm_at {x y : Pl} (a : leP x y) (b : leP y x) : x.at_ = y.at_ := by
  rw [le_iff] at *
  obtain ⟨a1, a2⟩ := a
  obtain ⟨b1, b2⟩ := b
  rw [a1] at b2
  rw [b1] at a2
  simp at a2 b2
  omega
theorem le_refl (x : Pl) : leP x x := by
  rw [le_iff]
  exact ⟨bet_irrefl _, .inr (Int.le_refl _)⟩
end Go.Proofs.Ytojhleijpcghoaa
