/-
  The walks of pick's bad and Check: what they answer. Conditions: the slice's cells.
-/
import Derived.Test.YtojhleijpcghoaaPop
namespace Go.Proofs.Ytojhleijpcghoaa
open Go.RowKit
set_option linter.unusedVariables false

def badC (c : Cd) : Bool := decide (c.cap < 1) || decide (64 < c.cap) || decide (c.live < 0) || decide (c.cap < c.live) || decide (c.age < 0) || decide (2147483648 < c.age)
theorem badC_gd (c : Cd) : badC c = false ↔ Gd c := by
  unfold badC
  simp only [Bool.or_eq_false_iff, decide_eq_false_iff_not]
  constructor
  · rintro ⟨⟨⟨⟨⟨h1, h2⟩, h3⟩, h4⟩, h5⟩, h6⟩
    exact ⟨by omega, by omega, by omega, by omega, by omega, by omega⟩
  · rintro ⟨h1, h2, h3, h4, h5, h6⟩
    exact ⟨⟨⟨⟨⟨by omega, by omega⟩, by omega⟩, by omega⟩, by omega⟩, by omega⟩

set_option maxHeartbeats 1000000 in
theorem bad_any (c : Cd) (w : World) :
    Calls Try.prog 24 #[.agg #[.int .i64 c.seg, .int .i64 c.live, .int .i64 c.cap, .int .i64 c.age]] w fun e w' => e = .returned (.bool (badC c)) ∧ Only (fun _ => False) w w' := by
  obtain ⟨s, l, p, a⟩ := c
  unfold badC
  simp only
  by_cases h1 : p < 1
  · go_enter Try.func24, Try.ntmps24
    go_wp2
    go_ret
    exact ⟨by simp [h1], (Only.refl _ _).alloc _⟩
  by_cases h2 : 64 < p
  · go_enter Try.func24, Try.ntmps24
    go_wp2
    go_ret
    exact ⟨by simp, (Only.refl _ _).alloc _⟩
  by_cases h3 : l < 0
  · go_enter Try.func24, Try.ntmps24
    go_wp2
    go_ret
    exact ⟨by simp, (Only.refl _ _).alloc _⟩
  by_cases h4 : p < l
  · go_enter Try.func24, Try.ntmps24
    go_wp2
    go_ret
    exact ⟨by simp, (Only.refl _ _).alloc _⟩
  by_cases h5 : a < 0
  · go_enter Try.func24, Try.ntmps24
    go_wp2
    go_ret
    exact ⟨by simp, (Only.refl _ _).alloc _⟩
  by_cases h6 : 2147483648 < a
  · go_enter Try.func24, Try.ntmps24
    go_wp2
    go_ret
    exact ⟨by simp, (Only.refl _ _).alloc _⟩
  · go_enter Try.func24, Try.ntmps24
    go_wp2
    go_ret
    exact ⟨by simp [h1, h2, h3, h4, h5, h6], (Only.refl _ _).alloc _⟩

/-! ### A slice of candidates in memory -/
/-- The elements of a slice: for each its place and its cells. -/
def CdsAt (w : World) (a : Option Addr) (l : List Cd) : Prop :=
  ∀ k, k < l.length → ∃ b off, a = some ⟨b, off, none⟩ ∧
    w.cell? ⟨b, off + k * 4, none⟩ = some (.int .i64 (l.getD k Cd.zero).seg) ∧ w.cell? ⟨b, off + k * 4 + 1, none⟩ = some (.int .i64 (l.getD k Cd.zero).live) ∧
    w.cell? ⟨b, off + k * 4 + 2, none⟩ = some (.int .i64 (l.getD k Cd.zero).cap) ∧ w.cell? ⟨b, off + k * 4 + 3, none⟩ = some (.int .i64 (l.getD k Cd.zero).age)
theorem CdsAt.onlyS {S : Nat → Prop} {w w' : World} {a : Option Addr} {l : List Cd} (h : CdsAt w a l) (o : Only S w w') (hS : ∀ k, k < w.heap.size → (∃ off, a = some ⟨k, off, none⟩) → ¬ S k) : CdsAt w' a l := by
  intro k hk
  obtain ⟨b, off, ha, h0, h1, h2, h3⟩ := h k hk
  have hb : b < w.heap.size := World.block_lt_of_cell? _ _ h0
  have e : ∀ j, w'.cell? ⟨b, j, none⟩ = w.cell? ⟨b, j, none⟩ := fun j => World.cell?_of_block (w := w) (o.block b hb (hS b hb ⟨off, ha⟩))
  exact ⟨b, off, ha, (e _).trans h0, (e _).trans h1, (e _).trans h2, (e _).trans h3⟩
theorem CdsAt.onlyF {w w' : World} {a : Option Addr} {l : List Cd} (h : CdsAt w a l) (o : Only (fun _ => False) w w') : CdsAt w' a l := h.onlyS o fun _ _ _ x => x

/-- What the look for a bad one answers. -/
def LookRes (l : List Cd) (w : World) (e : Ending) (w' : World) : Prop := ∃ r : Int, e = .returned (.int .i64 r) ∧ decide (0 ≤ r) = l.any badC ∧ Only (fun _ => False) w w'

set_option maxHeartbeats 1000000 in
theorem index_any (a : Option Addr) (cap : Nat) (l : List Cd) (w : World) (hL : l.length ≤ maxLen) (h : CdsAt w a l) :
    Calls Try.prog 31 #[.slice a l.length cap, .func (.func 24) #[] #[]] w (LookRes l w) := by
  unfold maxLen at hL
  have H := Lib.hid h
  clear h
  go_enter Try.func31, Try.ntmps31
  go_wp2_with fail
  go_loopw [8] (fun i wr => ∃ k : Nat, k ≤ l.length ∧ i = .int .i64 k ∧ Hid (∀ j, j < k → badC (l.getD j Cd.zero) = false) ∧ Only (fun _ => False) w wr) (fun i _ => l.length - (intOf i).toNat)
  case atStart => exact ⟨0, Nat.zero_le _, rfl, fun j hj => absurd hj (Nat.not_lt_zero _), Only.refl _ _⟩
  case round =>
    obtain ⟨k, hk, rfl, hb, o⟩ := hrel
    by_cases hlt : k < l.length
    · obtain ⟨b, off, ha, h0, h1, h2, h3⟩ := (H.out.onlyF o) k hlt
      subst ha
      have hB := bad_any (l.getD k Cd.zero) wr
      have hmem : l.getD k Cd.zero ∈ l := by rw [List.getD_eq_getElem?_getD, List.getElem?_eq_getElem hlt]; exact List.getElem_mem hlt
      have HM := Lib.hid hmem
      clear hmem
      generalize hx : l.getD k Cd.zero = x at h0 h1 h2 h3 hB HM
      have HX := Lib.hid hx
      clear hx
      cases hc : badC x with
      | true =>
        rw [hc] at hB
        have HC := Lib.hid hc
        clear hc
        go_wp2_with fail
        refine hB.mono ?_
        rintro e w2 ⟨rfl, o2⟩
        clear hB
        go_wp2_with fail
        go_ret
        exact ⟨k, rfl, by rw [List.any_eq_true.2 ⟨x, HM.out, HC.out⟩]; simp, o.trans o2⟩
      | false =>
        rw [hc] at hB
        have HN : Hid (∀ j, j < k + 1 → badC (l.getD j Cd.zero) = false) := fun j hj => by
          by_cases e : j = k
          · subst e; rw [HX.out]; exact hc
          · exact hb.out j (by omega)
        clear hc
        go_wp2_with fail
        refine hB.mono ?_
        rintro e w2 ⟨rfl, o2⟩
        clear hB
        go_wp2_with fail
        go_roundw
        case rel => exact ⟨k + 1, by omega, by go_num, HN.out, o.trans o2⟩
        case measure => simp [intOf]; omega
    · obtain rfl : k = l.length := by omega
      have HA : Hid (l.any badC = false) := by
        show l.any badC = false
        rw [List.any_eq_false]
        intro x hx
        obtain ⟨j, hj, e⟩ := List.getElem_of_mem hx
        have := hb.out j hj
        rw [List.getD_eq_getElem?_getD, List.getElem?_eq_getElem hj] at this
        simp only [Option.getD_some, e] at this
        simp [this]
      go_wp2_with fail
      go_ret
      exact ⟨-1, rfl, by rw [HA.out]; rfl, o⟩

theorem contains_any (a : Option Addr) (cap : Nat) (l : List Cd) (w : World) (hL : l.length ≤ maxLen) (h : CdsAt w a l) :
    Calls Try.prog 23 #[.slice a l.length cap, .func (.func 24) #[] #[]] w fun e w' => e = .returned (.bool (l.any badC)) ∧ Only (fun _ => False) w w' := by
  have hI := index_any a cap l w hL h
  go_enter Try.func23, Try.ntmps23
  go_wp2_with fail
  refine hI.mono ?_
  rintro e w2 ⟨r, rfl, hr, o⟩
  have HR := Lib.hid hr
  clear hI hr
  go_wp2_with fail
  go_ret
  exact ⟨by rw [← HR.out]; rfl, o⟩

/-- What Check answers. -/
def chkC (l : List Cd) : Int := if 512 < l.length ∨ l.any badC = true then 22 else 0
theorem check_any (a : Option Addr) (cap : Nat) (l : List Cd) (w : World) (hL : l.length ≤ maxLen) (h : CdsAt w a l) :
    Calls Try.prog 14 #[.slice a l.length cap] w fun e w' => e = .returned (.int .i64 (chkC l)) ∧ Only (fun _ => False) w w' := by
  have hI := contains_any a cap l w hL h
  by_cases h1 : 512 < l.length
  · have e : chkC l = 22 := if_pos (.inl h1)
    rw [e]
    clear e hI
    go_enter Try.func14, Try.ntmps14
    go_wp2_with fail
    go_ret
    exact ⟨rfl, Only.refl _ _⟩
  · cases hb : l.any badC with
    | true =>
      have e : chkC l = 22 := if_pos (.inr hb)
      rw [hb] at hI
      rw [e]
      clear e hb
      go_enter Try.func14, Try.ntmps14
      go_wp2_with fail
      refine hI.mono ?_
      rintro e w2 ⟨rfl, o⟩
      clear hI
      go_wp2_with fail
      go_ret
      exact ⟨rfl, o⟩
    | false =>
      have e : chkC l = 0 := if_neg (by rw [hb]; simp; omega)
      rw [hb] at hI
      rw [e]
      clear e hb
      go_enter Try.func14, Try.ntmps14
      go_wp2_with fail
      refine hI.mono ?_
      rintro e w2 ⟨rfl, o⟩
      clear hI
      go_wp2_with fail
      go_ret
      exact ⟨rfl, o⟩
end Go.Proofs.Ytojhleijpcghoaa
