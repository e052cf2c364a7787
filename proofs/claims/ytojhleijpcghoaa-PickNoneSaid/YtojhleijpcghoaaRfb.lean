/-
  The walks of the document's Good and Better: what they answer. Conditions: the slice's cells; candidates within their bounds.
-/
import Derived.Test.YtojhleijpcghoaaRfa
namespace Go.Proofs.Ytojhleijpcghoaa
open Go.RowKit
set_option linter.unusedVariables false

theorem bad_six (x : Cd) : badC x = true → x.cap < 1 ∨ (¬ x.cap < 1 ∧ 64 < x.cap) ∨ (¬ x.cap < 1 ∧ ¬ 64 < x.cap ∧ x.live < 0) ∨ (¬ x.cap < 1 ∧ ¬ 64 < x.cap ∧ ¬ x.live < 0 ∧ x.cap < x.live) ∨
    (¬ x.cap < 1 ∧ ¬ 64 < x.cap ∧ ¬ x.live < 0 ∧ ¬ x.cap < x.live ∧ x.age < 0) ∨ (¬ x.cap < 1 ∧ ¬ 64 < x.cap ∧ ¬ x.live < 0 ∧ ¬ x.cap < x.live ∧ ¬ x.age < 0 ∧ 2147483648 < x.age) := by
  unfold badC
  simp only [Bool.or_eq_true, decide_eq_true_eq]
  omega
theorem chk_bad {l : List Cd} (h : ∃ x ∈ l, badC x = true) : decide (chkC l = 0) = false := by
  obtain ⟨x, hx, hb⟩ := h
  have : chkC l = 22 := if_pos (.inr (List.any_eq_true.2 ⟨x, hx, hb⟩))
  rw [this]
  rfl
theorem any_false {l : List Cd} (h : ∀ j, j < l.length → badC (l.getD j Cd.zero) = false) : l.any badC = false := by
  rw [List.any_eq_false]
  intro x hx
  obtain ⟨j, hj, e⟩ := List.getElem_of_mem hx
  have := h j hj
  rw [List.getD_eq_getElem?_getD, List.getElem?_eq_getElem hj] at this
  simp only [Option.getD_some, e] at this
  simp [this]
theorem getD_mem {l : List Cd} {k : Nat} (h : k < l.length) : l.getD k Cd.zero ∈ l := by
  rw [List.getD_eq_getElem?_getD, List.getElem?_eq_getElem h]
  exact List.getElem_mem h

set_option maxHeartbeats 2000000 in
theorem good_any (a : Option Addr) (cap : Nat) (l : List Cd) (w : World) (hL : l.length ≤ 1000) (h : CdsAt w a l) :
    Calls Try.prog 15 #[.slice a l.length cap] w fun e w' => e = .returned (.bool (decide (chkC l = 0))) ∧ Only (fun _ => False) w w' := by
  have HA := Lib.hid h
  clear h
  go_enter Try.func15, Try.ntmps15
  go_wp2_with fail
  go_loopw [7] (fun iv wr => ∃ (k : Nat), k ≤ l.length ∧ iv = .int .i64 k ∧ Hid (∀ j, j < k → badC (l.getD j Cd.zero) = false) ∧ Only (fun _ => False) w wr) (fun iv _ => l.length - (intOf iv).toNat)
  case atStart => exact ⟨0, Nat.zero_le _, rfl, fun j hj => absurd hj (Nat.not_lt_zero _), Only.refl _ _⟩
  case round =>
    obtain ⟨k, hk, rfl, hE, o⟩ := hrel
    by_cases hlt : k < l.length
    · obtain ⟨b, off, ha, g0, g1, g2, g3⟩ := (HA.out.onlyF o) k hlt
      subst ha
      have hm := Lib.hid (getD_mem hlt)
      generalize hx : l.getD k Cd.zero = x at *
      have HX := Lib.hid hx
      clear hx
      cases hb : badC x with
      | true =>
        have hd : Hid (decide (chkC l = 0) = false) := chk_bad ⟨x, hm.out, hb⟩
        have h6 := bad_six x hb
        clear hb
        rcases h6 with h1 | ⟨h1, h2⟩ | ⟨h1, h2, h3⟩ | ⟨h1, h2, h3, h4⟩ | ⟨h1, h2, h3, h4, h5⟩ | ⟨h1, h2, h3, h4, h5, h6⟩
        all_goals
          go_wp2_with fail
          go_ret
          exact ⟨ret_bool hd.out.symm, o.alloc _⟩
      | false =>
        have HE2 : Hid (∀ j, j < k + 1 → badC (l.getD j Cd.zero) = false) := fun j hj => by
          by_cases e : j = k
          · subst e; rw [HX.out]; exact hb
          · exact hE.out j (by omega)
        obtain ⟨h1, h2, h3, h4, h5, h6⟩ := (badC_gd x).1 hb
        clear hb
        have hlt1 : (k : Int) < l.length := by omega
        go_wp2_with fail
        go_roundw
        case rel => exact ⟨k + 1, by omega, by go_num, HE2.out, o.alloc _⟩
        case measure => simp [intOf]; omega
    · obtain rfl : k = l.length := by omega
      have hb := any_false hE.out
      have hd : Hid (decide (chkC l = 0) = decide ((l.length : Int) ≤ 512)) := by
        show decide (chkC l = 0) = decide ((l.length : Int) ≤ 512)
        unfold chkC
        rw [hb]
        by_cases h5 : 512 < l.length
        · rw [if_pos (.inl h5)]; simp; omega
        · rw [if_neg (by simp; omega)]; simp; omega
      clear hb
      go_wp2_with fail
      go_ret
      exact ⟨ret_bool hd.out.symm, o⟩

/-! ### Better -/
theorem betC_eq (x y : Cd) : betC x y = if ben x y ≠ ben y x then decide (ben y x < ben x y) else if x.live ≠ y.live then decide (x.live < y.live) else decide (x.seg < y.seg) := by
  unfold betC cmpC orI cmpI
  rw [Bool.eq_iff_iff]
  repeat' split
  all_goals (simp only [decide_eq_true_eq]; omega)

set_option maxRecDepth 100000 in
set_option maxHeartbeats 4000000 in
theorem rbetter_any (x y : Cd) (w : World) (hx : Gd x) (hy : Gd y) :
    Calls Try.prog 17 #[.agg #[.int .i64 x.seg, .int .i64 x.live, .int .i64 x.cap, .int .i64 x.age], .agg #[.int .i64 y.seg, .int .i64 y.live, .int .i64 y.cap, .int .i64 y.age]] w fun e w' =>
      e = .returned (.bool (betC x y)) ∧ Only (fun _ => False) w w' := by
  rw [betC_eq]
  obtain ⟨xc1, xc2, xl1, xl2, xa1, xa2⟩ := hx
  obtain ⟨yc1, yc2, yl1, yl2, ya1, ya2⟩ := hy
  unfold ben
  obtain ⟨xs, xl, xc, xa⟩ := x
  obtain ⟨ys, yl, yc, ya⟩ := y
  simp only at *
  have m1 := mul_bd (a := yc - yl) (b := ya) (m := 64) (n := 2147483648) (by omega) (by omega) ya1 ya2
  have m2 := mul_bd (a := (yc - yl) * ya) (b := xc + xl) (m := 64 * 2147483648) (n := 128) m1.1 m1.2 (by omega) (by omega)
  have m3 := mul_bd (a := xc - xl) (b := xa) (m := 64) (n := 2147483648) (by omega) (by omega) xa1 xa2
  have m4 := mul_bd (a := (xc - xl) * xa) (b := yc + yl) (m := 64 * 2147483648) (n := 128) m3.1 m3.2 (by omega) (by omega)
  have e1 : IntKind.i64.wrap (yc - yl) = yc - yl := IntWalk.i64_in _ (by omega)
  have e2 : IntKind.i64.wrap ((yc - yl) * ya) = (yc - yl) * ya := IntWalk.i64_in _ (by omega)
  have e3 : IntKind.i64.wrap (xc + xl) = xc + xl := IntWalk.i64_in _ (by omega)
  have e4 : IntKind.i64.wrap ((yc - yl) * ya * (xc + xl)) = (yc - yl) * ya * (xc + xl) := IntWalk.i64_in _ (by omega)
  have e5 : IntKind.i64.wrap (xc - xl) = xc - xl := IntWalk.i64_in _ (by omega)
  have e6 : IntKind.i64.wrap ((xc - xl) * xa) = (xc - xl) * xa := IntWalk.i64_in _ (by omega)
  have e7 : IntKind.i64.wrap (yc + yl) = yc + yl := IntWalk.i64_in _ (by omega)
  have e8 : IntKind.i64.wrap ((xc - xl) * xa * (yc + yl)) = (xc - xl) * xa * (yc + yl) := IntWalk.i64_in _ (by omega)
  clear m1 m2 m3 m4
  have oW : Only (fun _ => False) w ((w.alloc (.cells #[.int .i64 xs, .int .i64 xl, .int .i64 xc, .int .i64 xa] 39)).alloc (.cells #[.int .i64 ys, .int .i64 yl, .int .i64 yc, .int .i64 ya] 39)) := ((Only.refl _ _).alloc _).alloc _
  by_cases hn : (xc - xl) * xa * (yc + yl) ≠ (yc - yl) * ya * (xc + xl)
  · rw [if_pos hn]
    have hb : ((xc - xl) * xa * (yc + yl) != (yc - yl) * ya * (xc + xl)) = true := by simpa using hn
    clear hn
    go_enter Try.func17, Try.ntmps17
    go_wp2_with fail
    go_ret
    exact ⟨rfl, oW⟩
  · rw [if_neg hn]
    have hb : ((xc - xl) * xa * (yc + yl) != (yc - yl) * ya * (xc + xl)) = false := by simpa using hn
    clear hn
    by_cases hn : xl ≠ yl
    · rw [if_pos hn]
      have hb2 : (xl != yl) = true := by simpa using hn
      clear hn
      go_enter Try.func17, Try.ntmps17
      go_wp2_with fail
      go_ret
      exact ⟨rfl, oW⟩
    · rw [if_neg hn]
      have hb2 : (xl != yl) = false := by simpa using hn
      clear hn
      go_enter Try.func17, Try.ntmps17
      go_wp2_with fail
      go_ret
      exact ⟨rfl, oW⟩
end Go.Proofs.Ytojhleijpcghoaa
