/-
  The walks of container/heap's Init and Pop over the queue, and of the queue's own Pop. Conditions: the queue's facts.
-/
import Derived.Test.YtojhleijpcghoaaHp
namespace Go.Proofs.Ytojhleijpcghoaa
open Go.RowKit
set_option linter.unusedVariables false

theorem flatP_take (Q : List Pl) : ∀ n, flatP (Q.take n) = (flatP Q).take (n * 5) := by
  induction Q with
  | nil => intro n; simp [flatP]
  | cons x Q ih =>
    intro n
    cases n with
    | zero => simp [flatP]
    | succ n => rw [show (n + 1) * 5 = n * 5 + 5 from by omega]; simp [flatP, ih]
theorem PlAt.take {w : World} {g : Nat} {Q : List Pl} (h : PlAt w g Q) (n : Nat) (hn : n ≤ Q.length) : PlAt w g (Q.take n) := by
  obtain ⟨cur, h1, h2⟩ := h
  refine ⟨cur, h1, ?_⟩
  rw [flatP_take, ← h2, List.take_take, List.length_take, Nat.min_eq_left hn, Nat.min_eq_left (by omega)]
theorem elt_take (Q : List Pl) (n k : Nat) (h : k < n) : elt (Q.take n) k = elt Q k := by
  unfold elt
  rw [List.getD_eq_getElem?_getD, List.getD_eq_getElem?_getD, List.getElem?_take_of_lt h]

set_option maxHeartbeats 1000000 in
theorem qpop_any {w : World} {qb g cap m : Nat} {Q : List Pl} (h : QAt w qb g cap Q) (hL : Q.length ≤ 512) (hm : Q.length = m + 1) (hcap : Q.length ≤ cap) (hcm : cap ≤ maxLen) :
    Calls Try.prog 54 #[.pointer (some ⟨qb, 0, none⟩)] w fun e w' =>
      e = .returned (.iface 51 (.agg #[.int .i64 (elt Q m).c.seg, .int .i64 (elt Q m).c.live, .int .i64 (elt Q m).c.cap, .int .i64 (elt Q m).c.age, .int .i64 (elt Q m).at_])) ∧
      QAt w' qb g cap (Q.take m) ∧ Only (fun k => k = qb) w w' := by
  unfold maxLen at hcm
  have hc := h.cell
  have hf : w.frozen? ⟨qb, 0, none⟩ = false := by simp [World.frozen?, h.box]
  obtain ⟨x0, x1, x2, x3, x4⟩ := h.pl.five m (by omega)
  have hlt := h.pl.lt
  have hqlt : qb < w.heap.size := (Array.getElem?_eq_some_iff.1 h.box).1
  have E := Lib.hid hm
  rw [hm] at hc hL hcap
  clear hm
  go_enter Try.func54, Try.ntmps54
  go_wp2_with fail
  go_ret
  refine ⟨rfl, ⟨?_, ?_, ?_⟩, ?_⟩
  · rw [Below.heap_alloc _ _ _ (by simpa using hqlt), heap_setCell_same _ _ _ _ _ _ _ h.box, List.length_take, E.out, Nat.min_eq_left (by omega)]
    rfl
  · exact ((h.pl.take m (by rw [E.out]; omega)).poke h.ne _ _).alloc _
  · intro k hk
    rw [List.length_take, E.out, Nat.min_eq_left (by omega)] at hk
    rw [elt_take Q m k hk]
    exact h.good k (by rw [E.out]; omega)
  · exact ((Only.refl (fun k => k = qb) w).setCell (q := ⟨qb, 0, none⟩) (.inl rfl) _).alloc _

/-! ### Init -/
/-- down at every place below k, the last first. -/
def initF : Nat → List Pl → Nat → List Pl
  | 0, Q, _ => Q
  | k + 1, Q, n => initF k (downF n Q k n) n
theorem len_downF : ∀ (f : Nat) (Q : List Pl) (i n : Nat), (downF f Q i n).length = Q.length := by
  intro f
  induction f with
  | zero => intro Q i n; rfl
  | succ f ih =>
    intro Q i n
    unfold downF
    split
    · rfl
    · simp only
      split <;> split <;> first | rfl | rw [ih, len_swapQ]

set_option maxHeartbeats 1000000 in
theorem init_any {w : World} {qb g cap : Nat} {Q : List Pl} (h : QAt w qb g cap Q) (hL : Q.length ≤ 512) :
    Calls Try.prog 27 #[.iface 53 (.pointer (some ⟨qb, 0, none⟩))] w fun e w' =>
      e = .returned (.tuple #[]) ∧ QAt w' qb g cap (initF (Q.length / 2) Q Q.length) ∧ Only (fun k => k = g) w w' := by
  have hm := method_len h.cell
  go_enter Try.func27, Try.ntmps27
  go_wp2_with (go_at_call 28; refine (len_any _ _ _).mono ?_; rintro e w' ⟨rfl, rfl⟩)
  go_loopw [3] (fun iv wr => ∃ (k : Nat) (Q' : List Pl), k ≤ Q.length ∧ iv = .int .i64 ((k : Int) - 1) ∧ Hid (initF (Q.length / 2) Q Q.length = initF k Q' Q.length) ∧ Hid (Q'.length = Q.length) ∧ QAt wr qb g cap Q' ∧ Only (fun k => k = g) w wr) (fun iv _ => (intOf iv + 1).toNat)
  case atStart => exact ⟨Q.length / 2, Q, by omega, rfl, rfl, rfl, h, Only.refl _ _⟩
  case round =>
    obtain ⟨k, Q', hk, rfl, hd, hl, q, o⟩ := hrel
    cases k with
    | zero =>
      have E := hd
      clear hd
      go_wp2_with fail
      go_end0
      exact ⟨rfl, by rw [E.out]; exact q, o⟩
    | succ k =>
      have e0 : ((k + 1 : Nat) : Int) - 1 = k := by omega
      have hD := down_any k Q.length q (by rw [hl.out]; exact hL) (by rw [hl.out]; exact Nat.le_refl _) (by omega)
      have E := hd
      have EL : Hid ((downF Q.length Q' k Q.length).length = Q.length) := (len_downF _ _ _ _).trans hl.out
      clear hd
      rw [e0]
      clear e0
      go_wp2_with fail
      refine hD.mono ?_
      rintro e w3 ⟨b, rfl, q3, o3⟩
      clear hD
      go_wp2_with fail
      go_roundw
      case rel => exact ⟨k, _, by omega, rfl, E.out, EL.out, q3, o.trans o3⟩
      case measure => simp [intOf]

/-! ### heap.Pop -/
/-- What the heap is ahead of the queue's own Pop. -/
def popF (Q : List Pl) (m : Nat) : List Pl := downF m (swapQ Q 0 m) 0 m

set_option maxHeartbeats 1000000 in
theorem hpop_any {w : World} {qb g cap m : Nat} {Q : List Pl} (h : QAt w qb g cap Q) (hL : Q.length ≤ 512) (hm : Q.length = m + 1) (hcap : Q.length ≤ cap) (hcm : cap ≤ maxLen) :
    Calls Try.prog 29 #[.iface 53 (.pointer (some ⟨qb, 0, none⟩))] w fun e w' =>
      e = .returned (.iface 51 (.agg #[.int .i64 (elt (popF Q m) m).c.seg, .int .i64 (elt (popF Q m) m).c.live, .int .i64 (elt (popF Q m) m).c.cap, .int .i64 (elt (popF Q m) m).c.age, .int .i64 (elt (popF Q m) m).at_])) ∧
      QAt w' qb g cap ((popF Q m).take m) ∧ Only (fun k => k = qb ∨ k = g) w w' := by
  have hmm := method_len h.cell
  have hms := method_swap h.cell
  have hS := swap_any cap 0 m h.pl (by omega) (by omega) hL
  have hlen := Lib.hid hm
  have e1 := Lib.hid (show ((Q.length : Nat) : Int) - 1 = (m : Nat) from by omega)
  rw [show ((0 : Nat) : Int) = 0 from rfl] at hS
  have hq := fun (w' : World) (p : PlAt w' g (swapQ Q 0 m)) (o : Only (fun k => k = g) w w') => h.swapped (by omega) (by omega) p o
  have HQ := Lib.hid hq
  have hD := fun (w' : World) (q : QAt w' qb g cap (swapQ Q 0 m)) => down_any 0 m q (by rw [len_swapQ]; exact hL) (by rw [len_swapQ]; omega) (by omega)
  have HD := Lib.hid hD
  have hP := fun (w' : World) (q : QAt w' qb g cap (popF Q m)) => qpop_any (m := m) q (by unfold popF; rw [len_downF, len_swapQ]; exact hL) (by unfold popF; rw [len_downF, len_swapQ]; exact hm) (by unfold popF; rw [len_downF, len_swapQ]; exact hcap) hcm
  have HP := Lib.hid hP
  have hpos : 1 ≤ Q.length := by omega
  clear hq hD hP hm
  go_enter Try.func29, Try.ntmps29
  go_wp2_with fail
  refine (len_any _ _ _).mono ?_
  rintro e w' ⟨rfl, rfl⟩
  clear hmm
  go_wp2_with fail
  rw [e1.out]
  refine hS.mono ?_
  rintro e w2 ⟨rfl, p2, o2⟩
  have q2 := HQ.out _ p2 o2
  clear hS hms
  go_wp2_with fail
  have hD0 := HD.out _ q2
  rw [show ((0 : Nat) : Int) = 0 from rfl] at hD0
  refine hD0.mono ?_
  rintro e w3 ⟨b, rfl, q3, o3⟩
  have hP0 := HP.out _ q3
  have hm4 := method_pop ⟨qb, 0, none⟩ w3
  clear hD0 q2
  go_wp2_with fail
  refine hP0.mono ?_
  rintro e w4 ⟨rfl, q4, o4⟩
  clear hP0 hm4
  go_wp2_with fail
  go_ret
  exact ⟨rfl, q4, (o2.mono fun _ _ x => .inr x).trans ((o3.mono fun _ _ x => .inr x).trans (o4.mono fun _ _ x => .inl x))⟩
end Go.Proofs.Ytojhleijpcghoaa
