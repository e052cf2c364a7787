/-
  The walks of container/heap over the queue: what Init, down and Pop leave. Conditions: the queue's facts.
-/
import Derived.Test.YtojhleijpcghoaaSwp
namespace Go.Proofs.Ytojhleijpcghoaa
open Go.RowKit
set_option linter.unusedVariables false

/-- The queue behind its pointer. -/
structure QAt (w : World) (qb g cap : Nat) (Q : List Pl) : Prop where
  box : w.heap[qb]? = some (.cells #[.slice (some ⟨g, 0, none⟩) Q.length cap] 49)
  pl : PlAt w g Q
  good : ∀ i, i < Q.length → Gd (elt Q i).c
theorem QAt.cell {w : World} {qb g cap : Nat} {Q : List Pl} (h : QAt w qb g cap Q) : w.cell? ⟨qb, 0, none⟩ = some (.slice (some ⟨g, 0, none⟩) Q.length cap) := by simp [World.cell?, h.box]

theorem load_queue {w : World} {qb : Nat} {v : Value} (h : w.cell? ⟨qb, 0, none⟩ = some v) (hv : ∃ a n c, v = .slice a n c) : (loadVar 49 ⟨qb, 0, none⟩).run Try.prog w = .ok v w := by
  obtain ⟨a, n, c, rfl⟩ := hv
  have e : ∀ (x : Addr), (loadVar 49 x).run Try.prog w = (Sem.load .plain x fun v => Sem.pure v).run Try.prog w := fun x => by kernel_rfl
  rw [e]
  simp [Sem.run, h]
theorem method_len' (a : Addr) (w : World) : (method 184 53 (.pointer (some a)) "Len").run Try.prog w = (Sem.bind (loadVar 49 a) fun v => Sem.pure (28, v)).run Try.prog w := by kernel_rfl
theorem method_less' (a : Addr) (w : World) : (method 184 53 (.pointer (some a)) "Less").run Try.prog w = (Sem.bind (loadVar 49 a) fun v => Sem.pure (52, v)).run Try.prog w := by kernel_rfl
theorem method_swap' (a : Addr) (w : World) : (method 184 53 (.pointer (some a)) "Swap").run Try.prog w = (Sem.bind (loadVar 49 a) fun v => Sem.pure (53, v)).run Try.prog w := by kernel_rfl
theorem method_pop (a : Addr) (w : World) : (method 184 53 (.pointer (some a)) "Pop").run Try.prog w = .ok (54, .pointer (some a)) w := by kernel_rfl

theorem method_len {w : World} {qb g n c : Nat} (h : w.cell? ⟨qb, 0, none⟩ = some (.slice (some ⟨g, 0, none⟩) n c)) :
    (method 184 53 (.pointer (some ⟨qb, 0, none⟩)) "Len").run Try.prog w = .ok (28, .slice (some ⟨g, 0, none⟩) n c) w := by
  rw [method_len']
  show ((loadVar 49 ⟨qb, 0, none⟩) >>= fun v => (pure (28, v) : Sem (FuncId × Value))).run Try.prog w = _
  rw [Sem.run_bind, load_queue h ⟨_, _, _, rfl⟩]
  rfl
theorem method_less {w : World} {qb g n c : Nat} (h : w.cell? ⟨qb, 0, none⟩ = some (.slice (some ⟨g, 0, none⟩) n c)) :
    (method 184 53 (.pointer (some ⟨qb, 0, none⟩)) "Less").run Try.prog w = .ok (52, .slice (some ⟨g, 0, none⟩) n c) w := by
  rw [method_less']
  show ((loadVar 49 ⟨qb, 0, none⟩) >>= fun v => (pure (52, v) : Sem (FuncId × Value))).run Try.prog w = _
  rw [Sem.run_bind, load_queue h ⟨_, _, _, rfl⟩]
  rfl
theorem method_swap {w : World} {qb g n c : Nat} (h : w.cell? ⟨qb, 0, none⟩ = some (.slice (some ⟨g, 0, none⟩) n c)) :
    (method 184 53 (.pointer (some ⟨qb, 0, none⟩)) "Swap").run Try.prog w = .ok (53, .slice (some ⟨g, 0, none⟩) n c) w := by
  rw [method_swap']
  show ((loadVar 49 ⟨qb, 0, none⟩) >>= fun v => (pure (53, v) : Sem (FuncId × Value))).run Try.prog w = _
  rw [Sem.run_bind, load_queue h ⟨_, _, _, rfl⟩]
  rfl

/-! ### down -/
def downF : Nat → List Pl → Nat → Nat → List Pl
  | 0, Q, _, _ => Q
  | f + 1, Q, i, n =>
    if n ≤ 2 * i + 1 then Q
    else
      let j := if 2 * i + 2 < n ∧ lessP (elt Q (2 * i + 2)) (elt Q (2 * i + 1)) = true then 2 * i + 2 else 2 * i + 1
      if lessP (elt Q j) (elt Q i) = true then downF f (swapQ Q i j) j n else Q

theorem len_swapQ (Q : List Pl) (i j : Nat) : (swapQ Q i j).length = Q.length := by simp [swapQ]

theorem len_any {w : World} (g n cap : Nat) : Calls Try.prog 28 #[.slice (some ⟨g, 0, none⟩) n cap] w fun e w' => e = .returned (.int .i64 n) ∧ w = w' := by
  go_enter Try.func28, Try.ntmps28
  go_wp2
  go_ret
  exact ⟨rfl, rfl⟩

theorem QAt.onlyF {w w' : World} {qb g cap : Nat} {Q : List Pl} (h : QAt w qb g cap Q) (o : Only (fun _ => False) w w') : QAt w' qb g cap Q :=
  ⟨o.keep h.box (fun x => x), h.pl.onlyF o, h.good⟩
theorem QAt.ne {w : World} {qb g cap : Nat} {Q : List Pl} (h : QAt w qb g cap Q) : ¬ qb = g := by
  rintro rfl
  obtain ⟨cur, h1, _⟩ := h.pl
  rw [h.box] at h1
  simp at h1
theorem elt_set (Q : List Pl) (i k : Nat) (x : Pl) (h : i < Q.length) : elt (Q.set i x) k = if i = k then x else elt Q k := by
  unfold elt
  by_cases e : i = k
  · subst e; simp [h]
  · rw [if_neg e, List.getD_eq_getElem?_getD, List.getD_eq_getElem?_getD, List.getElem?_set_ne e]
theorem elt_swap (Q : List Pl) (i j k : Nat) (hi : i < Q.length) (hj : j < Q.length) : elt (swapQ Q i j) k = if j = k then elt Q i else if i = k then elt Q j else elt Q k := by
  unfold swapQ
  rw [elt_set _ _ _ _ (by simpa using hj), elt_set _ _ _ _ hi]
theorem QAt.swapped {w w' : World} {qb g cap : Nat} {Q : List Pl} {i j : Nat} (h : QAt w qb g cap Q) (hi : i < Q.length) (hj : j < Q.length) (p : PlAt w' g (swapQ Q i j)) (o : Only (fun k => k = g) w w') : QAt w' qb g cap (swapQ Q i j) :=
  ⟨by rw [len_swapQ]; exact o.keep h.box h.ne, p, fun k hk => by
    rw [len_swapQ] at hk
    rw [elt_swap Q i j k hi hj]
    split
    · exact h.good i hi
    · split
      · exact h.good j hj
      · exact h.good k hk⟩

set_option maxRecDepth 100000 in
set_option maxHeartbeats 4000000 in
theorem down_any {w : World} {qb g cap : Nat} {Q : List Pl} (i0 n : Nat) (h : QAt w qb g cap Q) (hL : Q.length ≤ 512) (hn : n ≤ Q.length) (hi0 : i0 ≤ 512) :
    Calls Try.prog 34 #[.iface 53 (.pointer (some ⟨qb, 0, none⟩)), .int .i64 i0, .int .i64 n] w fun e w' =>
      ∃ b, e = .returned (.bool b) ∧ QAt w' qb g cap (downF n Q i0 n) ∧ Only (fun k => k = g) w w' := by
  go_enter Try.func34, Try.ntmps34
  go_wp2_with fail
  go_loopw [7] (fun iv wr => ∃ (i f : Nat) (Q' : List Pl), i ≤ 512 ∧ iv = .int .i64 i ∧ n ≤ f + i ∧ Hid (downF n Q i0 n = downF f Q' i n) ∧ Hid (Q'.length = Q.length) ∧ QAt wr qb g cap Q' ∧ Only (fun k => k = g) w wr) (fun iv _ => 513 - (intOf iv).toNat)
  case atStart => exact ⟨i0, n, Q, hi0, rfl, by omega, rfl, rfl, h, Only.refl _ _⟩
  case round =>
    obtain ⟨i, f, Q', hi, rfl, hf, hd, hl, q, o⟩ := hrel
    have hlen : n ≤ Q'.length := by rw [hl.out]; exact hn
    have hl512 : Q'.length ≤ 512 := by rw [hl.out]; exact hL
    by_cases h1 : n ≤ 2 * i + 1
    · have h1' : (n : Int) ≤ 2 * (i : Int) + 1 := by omega
      have e : downF f Q' i n = Q' := by
        cases f with
        | zero => rfl
        | succ f => exact if_pos h1
      have E := Lib.hid (hd.out.trans e)
      clear e hd
      go_wp2_with fail
      go_ret
      exact ⟨_, rfl, by rw [E.out]; exact q, o⟩
    · have h1' : 2 * (i : Int) + 1 < n := by omega
      obtain ⟨f', rfl⟩ : ∃ f', f = f' + 1 := ⟨f - 1, by omega⟩
      have hm := method_less q.cell
      have E1 := Lib.hid (show 2 * (i : Int) + 1 = ((2 * i + 1 : Nat) : Int) from by omega)
      have E2 := Lib.hid (show 2 * (i : Int) + 1 + 1 = ((2 * i + 2 : Nat) : Int) from by omega)
      by_cases h2 : 2 * i + 2 < n
      · have h2' : 2 * (i : Int) + 1 + 1 < n := by omega
        have hLs := less_any cap (2 * i + 2) (2 * i + 1) q.pl (by omega) (by omega) hl512 (q.good _ (by omega)) (q.good _ (by omega))
        cases hb : lessP (elt Q' (2 * i + 2)) (elt Q' (2 * i + 1)) with
        | true =>
          have hJ : (if 2 * i + 2 < n ∧ lessP (elt Q' (2 * i + 2)) (elt Q' (2 * i + 1)) = true then 2 * i + 2 else 2 * i + 1) = 2 * i + 2 := if_pos ⟨h2, hb⟩
          have HJ := Lib.hid hJ
          rw [hb] at hLs
          clear hb hJ
          go_wp2_with fail
          rw [E2.out, E1.out]
          refine hLs.mono ?_
          rintro e w2 ⟨rfl, o2⟩
          clear hLs hm
          have q2 := q.onlyF o2
          have oo2 := o.trans o2.ofF
          cases hc : lessP (elt Q' (2 * i + 2)) (elt Q' i) with
          | false =>
            have e : downF (f' + 1) Q' i n = Q' := by
              show (if n ≤ 2 * i + 1 then Q' else _) = Q'
              rw [if_neg h1]
              simp only [HJ.out, hc]
              rfl
            have E := Lib.hid (hd.out.trans e)
            have hL2 := less_any cap (2 * i + 2) i q2.pl (by omega) (by omega) hl512 (q2.good _ (by omega)) (q2.good _ (by omega))
            rw [hc] at hL2
            have hm2 := method_less q2.cell
            clear e hd hc
            go_wp2_with fail
            refine hL2.mono ?_
            rintro e w3 ⟨rfl, o3⟩
            clear hL2 hm2
            go_wp2_with fail
            go_ret
            exact ⟨_, rfl, by rw [E.out]; exact q2.onlyF o3, oo2.trans o3.ofF⟩
          | true =>
            have e : downF (f' + 1) Q' i n = downF f' (swapQ Q' i (2 * i + 2)) (2 * i + 2) n := by
              show (if n ≤ 2 * i + 1 then Q' else _) = _
              rw [if_neg h1]
              simp only [HJ.out, hc]
              rfl
            have E := Lib.hid (hd.out.trans e)
            have hL2 := less_any cap (2 * i + 2) i q2.pl (by omega) (by omega) hl512 (q2.good _ (by omega)) (q2.good _ (by omega))
            rw [hc] at hL2
            have hm2 := method_less q2.cell
            clear e hd hc
            go_wp2_with fail
            refine hL2.mono ?_
            rintro e w3 ⟨rfl, o3⟩
            clear hL2 hm2
            have q3 := q2.onlyF o3
            have o4 := oo2.trans o3.ofF
            have hS := swap_any cap i (2 * i + 2) q3.pl (by omega) (by omega) hl512
            have hm3 := method_swap q3.cell
            go_wp2_with fail
            refine hS.mono ?_
            rintro e w5 ⟨rfl, p5, o5⟩
            clear hS hm3
            have q5 := q3.swapped (by omega) (by omega) p5 o5
            have HLn := Lib.hid ((len_swapQ Q' i (2 * i + 2)).trans hl.out)
            go_wp2_with fail
            go_roundw
            case rel => exact ⟨2 * i + 2, f', swapQ Q' i (2 * i + 2), by omega, rfl, by omega, E.out, HLn.out, q5, o4.trans o5⟩
            case measure => simp [intOf]; omega
        | false =>
          have hJ : (if 2 * i + 2 < n ∧ lessP (elt Q' (2 * i + 2)) (elt Q' (2 * i + 1)) = true then 2 * i + 2 else 2 * i + 1) = 2 * i + 1 := if_neg (fun x => by rw [hb] at x; exact absurd x.2 (by decide))
          have HJ := Lib.hid hJ
          rw [hb] at hLs
          clear hb hJ
          go_wp2_with fail
          rw [E2.out, E1.out]
          refine hLs.mono ?_
          rintro e w2 ⟨rfl, o2⟩
          clear hLs hm
          have q2 := q.onlyF o2
          have oo2 := o.trans o2.ofF
          cases hc : lessP (elt Q' (2 * i + 1)) (elt Q' i) with
          | false =>
            have e : downF (f' + 1) Q' i n = Q' := by
              show (if n ≤ 2 * i + 1 then Q' else _) = Q'
              rw [if_neg h1]
              simp only [HJ.out, hc]
              rfl
            have E := Lib.hid (hd.out.trans e)
            have hL2 := less_any cap (2 * i + 1) i q2.pl (by omega) (by omega) hl512 (q2.good _ (by omega)) (q2.good _ (by omega))
            rw [hc] at hL2
            have hm2 := method_less q2.cell
            clear e hd hc
            go_wp2_with fail
            refine hL2.mono ?_
            rintro e w3 ⟨rfl, o3⟩
            clear hL2 hm2
            go_wp2_with fail
            go_ret
            exact ⟨_, rfl, by rw [E.out]; exact q2.onlyF o3, oo2.trans o3.ofF⟩
          | true =>
            have e : downF (f' + 1) Q' i n = downF f' (swapQ Q' i (2 * i + 1)) (2 * i + 1) n := by
              show (if n ≤ 2 * i + 1 then Q' else _) = _
              rw [if_neg h1]
              simp only [HJ.out, hc]
              rfl
            have E := Lib.hid (hd.out.trans e)
            have hL2 := less_any cap (2 * i + 1) i q2.pl (by omega) (by omega) hl512 (q2.good _ (by omega)) (q2.good _ (by omega))
            rw [hc] at hL2
            have hm2 := method_less q2.cell
            clear e hd hc
            go_wp2_with fail
            refine hL2.mono ?_
            rintro e w3 ⟨rfl, o3⟩
            clear hL2 hm2
            have q3 := q2.onlyF o3
            have o4 := oo2.trans o3.ofF
            have hS := swap_any cap i (2 * i + 1) q3.pl (by omega) (by omega) hl512
            have hm3 := method_swap q3.cell
            go_wp2_with fail
            refine hS.mono ?_
            rintro e w5 ⟨rfl, p5, o5⟩
            clear hS hm3
            have q5 := q3.swapped (by omega) (by omega) p5 o5
            have HLn := Lib.hid ((len_swapQ Q' i (2 * i + 1)).trans hl.out)
            go_wp2_with fail
            go_roundw
            case rel => exact ⟨2 * i + 1, f', swapQ Q' i (2 * i + 1), by omega, rfl, by omega, E.out, HLn.out, q5, o4.trans o5⟩
            case measure => simp [intOf]; omega
      · have h2' : (n : Int) ≤ 2 * (i : Int) + 1 + 1 := by omega
        have HJ := Lib.hid (show (if 2 * i + 2 < n ∧ lessP (elt Q' (2 * i + 2)) (elt Q' (2 * i + 1)) = true then 2 * i + 2 else 2 * i + 1) = 2 * i + 1 from if_neg (fun x => h2 x.1))
        clear hm
        cases hc : lessP (elt Q' (2 * i + 1)) (elt Q' i) with
        | false =>
          have e : downF (f' + 1) Q' i n = Q' := by
            show (if n ≤ 2 * i + 1 then Q' else _) = Q'
            rw [if_neg h1]
            simp only [HJ.out, hc]
            rfl
          have E := Lib.hid (hd.out.trans e)
          have hL2 := less_any cap (2 * i + 1) i q.pl (by omega) (by omega) hl512 (q.good _ (by omega)) (q.good _ (by omega))
          rw [hc] at hL2
          have hm2 := method_less q.cell
          clear e hd hc
          go_wp2_with fail
          rw [E1.out]
          refine hL2.mono ?_
          rintro e w3 ⟨rfl, o3⟩
          clear hL2 hm2
          go_wp2_with fail
          go_ret
          exact ⟨_, rfl, by rw [E.out]; exact q.onlyF o3, o.trans o3.ofF⟩
        | true =>
          have e : downF (f' + 1) Q' i n = downF f' (swapQ Q' i (2 * i + 1)) (2 * i + 1) n := by
            show (if n ≤ 2 * i + 1 then Q' else _) = _
            rw [if_neg h1]
            simp only [HJ.out, hc]
            rfl
          have E := Lib.hid (hd.out.trans e)
          have hL2 := less_any cap (2 * i + 1) i q.pl (by omega) (by omega) hl512 (q.good _ (by omega)) (q.good _ (by omega))
          rw [hc] at hL2
          have hm2 := method_less q.cell
          clear e hd hc
          go_wp2_with fail
          rw [E1.out]
          refine hL2.mono ?_
          rintro e w3 ⟨rfl, o3⟩
          clear hL2 hm2
          have q3 := q.onlyF o3
          have o4 := o.trans o3.ofF
          have hS := swap_any cap i (2 * i + 1) q3.pl (by omega) (by omega) hl512
          have hm3 := method_swap q3.cell
          go_wp2_with fail
          refine hS.mono ?_
          rintro e w5 ⟨rfl, p5, o5⟩
          clear hS hm3
          have q5 := q3.swapped (by omega) (by omega) p5 o5
          have HLn := Lib.hid ((len_swapQ Q' i (2 * i + 1)).trans hl.out)
          go_wp2_with fail
          go_roundw
          case rel => exact ⟨2 * i + 1, f', swapQ Q' i (2 * i + 1), by omega, rfl, by omega, E.out, HLn.out, q5, o4.trans o5⟩
          case measure => simp [intOf]; omega
end Go.Proofs.Ytojhleijpcghoaa
