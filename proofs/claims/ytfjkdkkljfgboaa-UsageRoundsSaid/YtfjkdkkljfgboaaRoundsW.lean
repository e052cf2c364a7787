/-
  The walk of the law UsageRounds: it answers true and writes nothing that was there. No condition.
-/
import Derived.Test.YtfjkdkkljfgboaaAwake
import Derived.Test.YtfjkdkkljfgboaaCnt
namespace Go.Proofs.Ytfjkdkkljfgboaa
open Go.RowKit
set_option linter.unusedVariables false

theorem u64_nonneg (a : Int) : 0 ≤ IntKind.u64.wrap a := by
  simp [IntKind.wrap, IntKind.bits, IntKind.signed]; omega
theorem u64_mod (a : Int) (k : Nat) (hk : 0 < k) : ∃ m : Nat, m < k ∧ (IntKind.u64.wrap a).tmod k = m := by
  have h := u64_nonneg a
  rw [Int.tmod_eq_emod_of_nonneg h]
  have h1 := Int.emod_nonneg (IntKind.u64.wrap a) (b := (k : Int)) (by omega)
  have h2 := Int.emod_lt_of_pos (IntKind.u64.wrap a) (b := (k : Int)) (by omega)
  exact ⟨((IntKind.u64.wrap a) % (k : Int)).toNat, by omega, by omega⟩

/-! ### The table in round i -/
def rep (n : Nat) : List Inf := List.replicate n Inf.zero
def handAt (n i : Nat) : Int := if i = 0 then -1 else ((i - 1) % n : Nat)
def roundL (n i : Nat) : List Inf := if i = 0 then rep n else (rep n).set ((i - 1) % n) ⟨0, 2, 0⟩
/-- Behind Take, ahead of the Release. -/
def midL (n i : Nat) : List Inf := if i = 0 then (rep n).set 0 ⟨0, 2, 0⟩ else ((rep n).set ((i - 1) % n) ⟨0, 1, 0⟩).set (i % n) ⟨0, 2, 0⟩

theorem seg_rep (n k : Nat) : seg (rep n) k = Inf.zero := by
  unfold seg rep
  rw [List.getD_eq_getElem?_getD, List.getElem?_replicate]
  split <;> rfl
theorem seg_set_same (L : List Inf) (k : Nat) (s : Inf) (h : k < L.length) : seg (L.set k s) k = s := by simp [seg, h]
theorem seg_set_other (L : List Inf) (j k : Nat) (s : Inf) (h : j ≠ k) : seg (L.set j s) k = seg L k := by
  unfold seg
  rw [List.getD_eq_getElem?_getD, List.getD_eq_getElem?_getD, List.getElem?_set_ne h]
theorem len_rep (n : Nat) : (rep n).length = n := by simp [rep]
theorem len_roundL (n i : Nat) : (roundL n i).length = n := by unfold roundL; split <;> simp [rep]
theorem len_midL (n i : Nat) : (midL n i).length = n := by unfold midL; split <;> simp [rep]
theorem next_ne (n i : Nat) (hn : 2 ≤ n) : (i + 1) % n ≠ i % n := by
  intro h
  have h1 := Nat.mod_add_div i n
  have h2 := Nat.mod_lt i (show 0 < n by omega)
  by_cases hc : i % n + 1 < n
  · have : (i + 1) % n = i % n + 1 := by
      rw [Nat.add_mod, Nat.mod_eq_of_lt (show 1 < n by omega), Nat.mod_eq_of_lt hc]
    omega
  · have e : i % n + 1 = n := by omega
    have : (i + 1) % n = 0 := by
      rw [Nat.add_mod, Nat.mod_eq_of_lt (show 1 < n by omega), e, Nat.mod_self]
    omega
theorem spot_round (n i : Nat) (hn : 2 ≤ n) : spotOf n (handAt n i) 0 = i % n := by
  unfold spotOf handAt
  split
  · subst_vars; simp
  · have e : (((i - 1) % n : Nat) : Int) + 1 = (((i - 1) % n + 1 : Nat) : Int) := by omega
    rw [e, Int.toNat_natCast, Nat.add_zero, Nat.add_mod, Nat.mod_mod, ← Nat.add_mod]
    congr 1; omega
theorem prev_ne (n i : Nat) (hn : 2 ≤ n) (hi : i ≠ 0) : (i - 1) % n ≠ i % n := by
  have := next_ne n (i - 1) hn
  rw [show i - 1 + 1 = i from by omega] at this
  exact fun h => this h.symm
theorem clean_round (n i : Nat) (hn : 2 ≤ n) : (seg (roundL n i) (i % n)).state = 0 := by
  unfold roundL
  split
  · rw [seg_rep]; rfl
  · rename_i hi
    rw [seg_set_other _ _ _ _ (prev_ne n i hn hi), seg_rep]; rfl
theorem seize_round (n i : Nat) (hn : 2 ≤ n) : seizeL (roundL n i) (handAt n i) (i % n) = midL n i := by
  unfold seizeL roundL handAt midL
  by_cases hi : i = 0
  · subst hi
    simp [seg_rep, Inf.zero]
  · have hlt : (i - 1) % n < (rep n).length := by rw [len_rep]; exact Nat.mod_lt _ (by omega)
    simp only [if_neg hi, Int.toNat_natCast]
    rw [if_pos ⟨by omega, by rw [seg_set_same _ _ _ hlt]⟩, seg_set_same _ _ _ hlt]
    simp only [List.set_set]
    rw [seg_set_other _ _ _ _ (prev_ne n i hn hi), seg_rep]
    rfl
theorem mid_active (n i : Nat) (hn : 2 ≤ n) : (seg (midL n i) (i % n)).state = 2 := by
  unfold midL
  split
  · subst_vars
    rw [Nat.zero_mod, seg_set_same _ _ _ (by rw [len_rep]; omega)]
  · rw [seg_set_same]
    rw [List.length_set, len_rep]; exact Nat.mod_lt _ (by omega)
theorem mid_used (n i : Nat) (hn : 2 ≤ n) (hi : i ≠ 0) : seg (midL n i) ((i - 1) % n) = ⟨0, 1, 0⟩ := by
  unfold midL
  rw [if_neg hi, seg_set_other _ _ _ _ (fun h => prev_ne n i hn hi h.symm), seg_set_same]
  rw [len_rep]; exact Nat.mod_lt _ (by omega)
theorem next_first (n : Nat) (hn : 2 ≤ n) : midL n 0 = roundL n 1 := by
  unfold midL roundL; simp
theorem next_round (n i : Nat) (hn : 2 ≤ n) (hi : i ≠ 0) : (midL n i).set ((i - 1) % n) ⟨(seg (midL n i) ((i - 1) % n)).live, 0, 0⟩ = roundL n (i + 1) := by
  rw [mid_used n i hn hi]
  unfold midL roundL
  rw [if_neg hi, if_neg (by omega), List.set_comm _ _ (fun h => prev_ne n i hn hi h.symm), List.set_set, Nat.add_sub_cancel]
  congr 1
  have : (rep n).set ((i - 1) % n) ⟨0, 0, 0⟩ = rep n := by
    apply List.ext_getElem?
    intro k
    rw [List.getElem?_set]
    split
    · subst_vars; simp [rep, Inf.zero, List.getElem?_replicate]
    · rfl
  exact this
theorem mid_round_act (n i : Nat) (hn : 2 ≤ n) : (seg (roundL n (i + 1)) (i % n)).state = 2 := by
  unfold roundL
  rw [if_neg (by omega), Nat.add_sub_cancel, seg_set_same]
  rw [len_rep]; exact Nat.mod_lt _ (by omega)
theorem countL_rep (n : Nat) : countL (rep n) 0 = n := by
  unfold countL rep
  rw [List.filter_eq_self.2]
  · simp
  · intro a ha; rw [List.eq_of_mem_replicate ha]; rfl
theorem countL_set (L : List Inf) (s : Inf) (hs : s.state ≠ 0) : ∀ k, k < L.length → (seg L k).state = 0 → countL (L.set k s) 0 + 1 = countL L 0 := by
  induction L with
  | nil => intro k h; simp at h
  | cons a L ih =>
    intro k h hk
    cases k with
    | zero =>
      have ha : a.state = 0 := by simpa [seg] using hk
      simp [countL, ha, hs]
    | succ k =>
      have := ih k (by simpa using h) (by simpa [seg] using hk)
      by_cases ha : a.state = 0
      · simp [countL, ha] at this ⊢; omega
      · simp [countL, ha] at this ⊢; omega
theorem count_round (n i : Nat) (hn : 2 ≤ n) : countL (roundL n (i + 1)) 0 = n - 1 := by
  unfold roundL
  rw [if_neg (by omega)]
  have h := countL_set (rep n) ⟨0, 2, 0⟩ (by decide) ((i + 1 - 1) % n) (by rw [len_rep]; exact Nat.mod_lt _ (by omega)) (by rw [seg_rep]; rfl)
  rw [countL_rep] at h
  omega

theorem wrap2 (m : Nat) (h : m < 30) : wrap64 (wrap64 (m : Int) + 2) = (m + 2 : Nat) := by
  rw [IntWalk.wrap64_in (m : Int) (by omega), IntWalk.wrap64_in _ (by omega)]; omega
theorem tmod_cast (i n : Nat) : (i : Int).tmod n = (i % n : Nat) := (Int.ofNat_tmod i n).symm

set_option maxHeartbeats 1000000 in
theorem rounds_walk (a0 a1 : Int) (w : World) :
    Calls Try.prog 3 #[.int .i64 a0, .int .i64 a1] w fun e w' => e = .returned (.bool true) ∧ Only (fun _ => False) w w' := by
  obtain ⟨n, hn1, hn2, hseg⟩ : ∃ n : Nat, 2 ≤ n ∧ n ≤ 31 ∧ wrap64 (wrap64 ((IntKind.u64.wrap a0).tmod 30) + 2) = n := by
    obtain ⟨m, hm, e⟩ := u64_mod a0 30 (by omega)
    exact ⟨m + 2, by omega, by omega, by have := wrap2 m hm; rw [← e] at this; exact this⟩
  obtain ⟨r, hr, hrd⟩ : ∃ r : Nat, r < 100 ∧ wrap64 ((IntKind.u64.wrap a1).tmod 100) = r := by
    obtain ⟨m, hm, e⟩ := u64_mod a1 100 (by omega)
    exact ⟨m, hm, (congrArg wrap64 e).trans (IntWalk.wrap64_in (m : Int) (by omega))⟩
  go_enter Try.func3, Try.ntmps3
  go_wp2_with fail
  refine (awake_any w).mono ?_
  rintro e w1 ⟨rfl, o1⟩
  go_wp2_with fail
  refine (new_tab n 8 w1 (by omega) (by omega) (by omega) (by omega)).mono ?_
  rintro e w2 ⟨rfl, t2, o2⟩
  generalize hp : w1.heap.size + 1 = p at t2 ⊢
  generalize hc : w1.heap.size = c at t2 ⊢
  have o3 : Only (fresh w.heap.size) w w2 := (o1.mono fun _ _ h => h.elim).trans (o2.mono fun _ _ h => h.elim)
  have hpw : w.heap.size ≤ p := by have := o1.size; omega
  have hcw : w.heap.size ≤ c := by have := o1.size; omega
  clear hp hc o2
  go_wp2_with fail
  go_loopw [7] (fun i wr => ∃ k : Nat, k ≤ r ∧ i = .int .i64 k ∧ Only (fresh w.heap.size) w wr ∧ Tab wr p c (roundL n k) 8 (handAt n k)) (fun i _ => r - (intOf i).toNat)
  case atStart => exact ⟨0, Nat.zero_le _, rfl, o3, t2⟩
  case round =>
    obtain ⟨k, hk, rfl, o, t⟩ := hrel
    clear o3 t2
    by_cases hlt : k < r
    · have hT := take_at 0 (k % n) (midL n k) t (by rw [len_roundL]; omega) (by unfold handAt; split <;> omega)
        (by rw [len_roundL]; unfold handAt; split
            · omega
            · have := Nat.mod_lt (k - 1) (show 0 < n by omega); omega)
        (by rw [len_roundL]; omega) (fun _ h => by omega) (by rw [len_roundL, spot_round n k hn1]; exact clean_round n k hn1)
        (by rw [len_roundL, spot_round n k hn1]) (seize_round n k hn1)
      have hne : ((n : Int) == 0) = false := beq_eq_false_iff_ne.2 (by omega)
      have hmk : k % n < n := Nat.mod_lt _ (by omega)
      go_wp2_with fail
      refine hT.mono ?_
      rintro e w4 ⟨rfl, t4, o4⟩
      replace o4 := o.fresh o4 hpw hcw
      clear hT
      have e1 : (k : Int) % n = (k % n : Nat) := rfl
      have E1 := Lib.hid e1
      clear e1
      by_cases hk0 : k = 0
      · have hdk : ¬ (0 : Int) < k := by omega
        have t5 : Tab w4 p c (roundL n (k + 1)) 8 (handAt n (k + 1)) := by
          have h := t4
          rw [show midL n k = roundL n (k + 1) from by rw [hk0]; exact next_first n hn1] at h
          unfold handAt
          rw [if_neg (by omega), Nat.add_sub_cancel]; exact h
        have hR2 := release_active (k % n) t5 (by rw [len_roundL]; exact hmk) (mid_round_act n k hn1)
        have hC := count_any 0 t5 (by rw [len_roundL]; omega)
        rw [count_round n k hn1] at hC
        have hn3 : ((n - 1 : Nat) : Int) = (n : Int) - 1 := by omega
        rw [hn3] at hC
        clear t4 hn3 hk0
        go_wp2_with fail
        rw [E1.out]
        refine hR2.mono ?_
        rintro e w5 ⟨rfl, rfl⟩
        go_wp2_with fail
        refine hC.mono ?_
        rintro e w6 ⟨rfl, o6⟩
        clear hR2 hC
        go_wp2_with fail
        go_roundw
        case rel => exact ⟨k + 1, by omega, by go_num, o4.trans (o6.mono fun _ _ h => h.elim), t5.only o6 (fun h => h) (fun h => h)⟩
        case measure => simp [intOf]; omega
      · have hdk : (0 : Int) < k := by omega
        have e2 : ((k : Int) - 1) % n = ((k - 1) % n : Nat) := by rw [show (k : Int) - 1 = (k - 1 : Nat) from by omega]; rfl
        have E2 := Lib.hid e2
        clear e2
        have hm2 : (k - 1) % n < n := Nat.mod_lt _ (by omega)
        have hR1 := release_ok ((k - 1) % n) t4 (by rw [len_midL]; exact hm2) (by rw [mid_used n k hn1 hk0]; decide) (by rw [mid_used n k hn1 hk0]; decide) (by rw [mid_used n k hn1 hk0]; decide)
        rw [next_round n k hn1 hk0] at hR1
        go_wp2_with fail
        rw [E2.out]
        refine hR1.mono ?_
        rintro e w5 ⟨rfl, t5, o5⟩
        replace o5 := o4.fresh o5 hpw hcw
        have t6 : Tab w5 p c (roundL n (k + 1)) 8 (handAt n (k + 1)) := by
          unfold handAt
          rw [if_neg (by omega), Nat.add_sub_cancel]; exact t5
        have hR2 := release_active (k % n) t6 (by rw [len_roundL]; exact hmk) (mid_round_act n k hn1)
        have hC := count_any 0 t6 (by rw [len_roundL]; omega)
        rw [count_round n k hn1] at hC
        have hn3 : ((n - 1 : Nat) : Int) = (n : Int) - 1 := by omega
        rw [hn3] at hC
        clear hn3 t5 hR1
        go_wp2_with fail
        rw [E1.out]
        refine hR2.mono ?_
        rintro e w6 ⟨rfl, rfl⟩
        go_wp2_with fail
        refine hC.mono ?_
        rintro e w7 ⟨rfl, o7⟩
        clear hR2 hC
        go_wp2_with fail
        go_roundw
        case rel => exact ⟨k + 1, by omega, by go_num, o5.trans (o7.mono fun _ _ h => h.elim), t6.only o7 (fun h => h) (fun h => h)⟩
        case measure => simp [intOf]; omega
    · go_wp2_with fail
      go_ret
      exact ⟨rfl, o.mono fun k hk h => absurd hk (Nat.not_lt.2 h)⟩
end Go.Proofs.Ytfjkdkkljfgboaa
