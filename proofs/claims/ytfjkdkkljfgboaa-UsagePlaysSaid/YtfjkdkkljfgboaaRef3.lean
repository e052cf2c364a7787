/-
  The walks of the document's own table (package marlref10), part three: Touch, Use, Release. Conditions: the table's facts.
-/
import Derived.Test.YtfjkdkkljfgboaaRef2
namespace Go.Proofs.Ytfjkdkkljfgboaa
open Go.RowKit
set_option linter.unusedVariables false
section
variable {w : World} {c : Nat} {L : List Inf}

set_option maxHeartbeats 1000000 in
theorem rtouch_any (cap : Nat) (i n size hand : Int) (ht : RefAt w c L) (hL : L.length ≤ 512) :
    Calls Try.prog 31 #[.agg #[.slice (some ⟨c, 0, none⟩) L.length cap, .int .i64 size, .int .i64 hand], .int .i64 i, .int .i64 n] w
      (RefRes w (touchL L i n) L.length size hand (touchC L i n)) := by
  unfold touchL touchC
  cases hR : inR L i with
  | false =>
    simp only [Bool.false_and, Bool.false_eq_true, if_false]
    have h := inR_no hR
    clear hR
    by_cases h1 : i < 0
    · go_enter Try.func31, Try.ntmps31
      go_wp2_with fail
      exact bodyPost_ret (v := .tuple #[.agg #[.slice (some ⟨c, 0, none⟩) L.length cap, .int .i64 size, .int .i64 hand], .int .i64 22]) (by simp [results, Try.results31, go_sem]) rfl ⟨c, cap, rfl, ((ht.alloc _).alloc _), ((Only.refl _ _).alloc _).alloc _⟩
    · have h2 : (L.length : Int) ≤ i := by omega
      go_enter Try.func31, Try.ntmps31
      go_wp2_with fail
      exact bodyPost_ret (v := .tuple #[.agg #[.slice (some ⟨c, 0, none⟩) L.length cap, .int .i64 size, .int .i64 hand], .int .i64 22]) (by simp [results, Try.results31, go_sem]) rfl ⟨c, cap, rfl, ((ht.alloc _).alloc _), ((Only.refl _ _).alloc _).alloc _⟩
  | true =>
    obtain ⟨j, rfl, hj⟩ := inR_yes hR
    have v0 := fun o1 o2 => ((ht.alloc o1).alloc o2).live j hj
    have v1 := fun o1 o2 => ((ht.alloc o1).alloc o2).state j hj
    have v2 := fun o1 o2 => ((ht.alloc o1).alloc o2).age j hj
    clear hR
    by_cases hn : 0 ≤ n
    · rw [decide_eq_true hn]
      simp only [Bool.and_self, if_true]
      by_cases hm : (seg L j).age < n
      · have e : max (seg L j).age n = n := by omega
        show Calls _ _ _ _ (RefRes w (L.set j { seg L j with age := max (seg L j).age n }) _ _ _ _)
        rw [e]
        clear e
        have hA := with_any cap j size hand { seg L j with age := n } (w := ((w.alloc (.cells #[.slice (some ⟨c, 0, none⟩) L.length cap, .int .i64 size, .int .i64 hand] 52)).alloc (.cells #[.slice none 0 0, .int .i64 0, .int .i64 0] 52)).alloc (.cells #[.int .i64 (seg L j).live, .int .i64 (seg L j).state, .int .i64 n] 74)) (((ht.alloc _).alloc _).alloc _) hj hL
        go_enter Try.func31, Try.ntmps31
        go_wp2_with fail
        refine hA.mono ?_
        rintro e w5 ⟨c', cap', rfl, r5, o5⟩
        have R := res_block _ _ _ o5
        have o6 := res_only _ _ _ o5
        have hne := r5.ne52 R
        obtain ⟨s0, s1, s2, s3, s4, s5⟩ := three R
        clear hA o5
        go_wp2_with fail
        refine bodyPost_ret (v := .tuple #[.agg #[.slice (some ⟨c', 0, none⟩) L.length cap', .int .i64 size, .int .i64 hand], .int .i64 0]) (by simp [results, Try.results31, go_sem, s0, s1, s2]) rfl ⟨c', cap', rfl, ?_, ?_⟩
        · exact ((r5.poke hne _ _).poke hne _ _).poke hne _ _
        · exact ((o6.setCell (q := ⟨w.heap.size + 1, 0, none⟩) (.inr (Nat.le_succ _)) _).setCell (q := ⟨w.heap.size + 1, 1, none⟩) (.inr (Nat.le_succ _)) _).setCell (q := ⟨w.heap.size + 1, 2, none⟩) (.inr (Nat.le_succ _)) _
      · have e : max (seg L j).age n = (seg L j).age := by omega
        show Calls _ _ _ _ (RefRes w (L.set j { seg L j with age := max (seg L j).age n }) _ _ _ _)
        rw [e]
        clear e
        have hA := with_any cap j size hand { seg L j with age := (seg L j).age } (w := ((w.alloc (.cells #[.slice (some ⟨c, 0, none⟩) L.length cap, .int .i64 size, .int .i64 hand] 52)).alloc (.cells #[.slice none 0 0, .int .i64 0, .int .i64 0] 52)).alloc (.cells #[.int .i64 (seg L j).live, .int .i64 (seg L j).state, .int .i64 (seg L j).age] 74)) (((ht.alloc _).alloc _).alloc _) hj hL
        go_enter Try.func31, Try.ntmps31
        go_wp2_with fail
        refine hA.mono ?_
        rintro e w5 ⟨c', cap', rfl, r5, o5⟩
        have R := res_block _ _ _ o5
        have o6 := res_only _ _ _ o5
        have hne := r5.ne52 R
        obtain ⟨s0, s1, s2, s3, s4, s5⟩ := three R
        clear hA o5
        go_wp2_with fail
        refine bodyPost_ret (v := .tuple #[.agg #[.slice (some ⟨c', 0, none⟩) L.length cap', .int .i64 size, .int .i64 hand], .int .i64 0]) (by simp [results, Try.results31, go_sem, s0, s1, s2]) rfl ⟨c', cap', rfl, ?_, ?_⟩
        · exact ((r5.poke hne _ _).poke hne _ _).poke hne _ _
        · exact ((o6.setCell (q := ⟨w.heap.size + 1, 0, none⟩) (.inr (Nat.le_succ _)) _).setCell (q := ⟨w.heap.size + 1, 1, none⟩) (.inr (Nat.le_succ _)) _).setCell (q := ⟨w.heap.size + 1, 2, none⟩) (.inr (Nat.le_succ _)) _
    · rw [decide_eq_false hn]
      simp only [Bool.and_false, Bool.false_eq_true, if_false]
      go_enter Try.func31, Try.ntmps31
      go_wp2_with fail
      exact bodyPost_ret (v := .tuple #[.agg #[.slice (some ⟨c, 0, none⟩) L.length cap, .int .i64 size, .int .i64 hand], .int .i64 22]) (by simp [results, Try.results31, go_sem]) rfl ⟨c, cap, rfl, ((ht.alloc _).alloc _), ((Only.refl _ _).alloc _).alloc _⟩

set_option maxHeartbeats 1000000 in
theorem ruse_any (cap : Nat) (i size hand : Int) (ht : RefAt w c L) (hL : L.length ≤ 512) :
    Calls Try.prog 33 #[.agg #[.slice (some ⟨c, 0, none⟩) L.length cap, .int .i64 size, .int .i64 hand], .int .i64 i] w
      (RefRes w (useL L i) L.length size hand (useC L i)) := by
  unfold useL useC
  cases hR : inR L i with
  | false =>
    simp only [Bool.false_and, Bool.false_eq_true, if_false]
    have h := inR_no hR
    clear hR
    by_cases h1 : i < 0
    · go_enter Try.func33, Try.ntmps33
      go_wp2_with fail
      exact bodyPost_ret (v := .tuple #[.agg #[.slice (some ⟨c, 0, none⟩) L.length cap, .int .i64 size, .int .i64 hand], .int .i64 22]) (by simp [results, Try.results33, go_sem]) rfl ⟨c, cap, rfl, ((ht.alloc _).alloc _), ((Only.refl _ _).alloc _).alloc _⟩
    · have h2 : (L.length : Int) ≤ i := by omega
      go_enter Try.func33, Try.ntmps33
      go_wp2_with fail
      exact bodyPost_ret (v := .tuple #[.agg #[.slice (some ⟨c, 0, none⟩) L.length cap, .int .i64 size, .int .i64 hand], .int .i64 22]) (by simp [results, Try.results33, go_sem]) rfl ⟨c, cap, rfl, ((ht.alloc _).alloc _), ((Only.refl _ _).alloc _).alloc _⟩
  | true =>
    obtain ⟨j, rfl, hj⟩ := inR_yes hR
    have v0 := fun o1 o2 => ((ht.alloc o1).alloc o2).live j hj
    have v1 := fun o1 o2 => ((ht.alloc o1).alloc o2).state j hj
    have v2 := fun o1 o2 => ((ht.alloc o1).alloc o2).age j hj
    clear hR
    simp only [if_true]
    by_cases h0 : (seg L (j : Int).toNat).state = 0
    · rw [decide_eq_true h0, if_pos h0]
      simp only [Bool.and_self, if_true]
      have hss : ((seg L j).state != 0) = false := by simpa using h0
      clear h0
      have hA := with_any cap j size hand { seg L j with state := 1 } (w := ((w.alloc (.cells #[.slice (some ⟨c, 0, none⟩) L.length cap, .int .i64 size, .int .i64 hand] 52)).alloc (.cells #[.slice none 0 0, .int .i64 0, .int .i64 0] 52)).alloc (.cells #[.int .i64 (seg L j).live, .int .i64 1, .int .i64 (seg L j).age] 74)) (((ht.alloc _).alloc _).alloc _) hj hL
      go_enter Try.func33, Try.ntmps33
      go_wp2_with fail
      refine hA.mono ?_
      rintro e w5 ⟨c', cap', rfl, r5, o5⟩
      have R := res_block _ _ _ o5
      have o6 := res_only _ _ _ o5
      have hne := r5.ne52 R
      obtain ⟨s0, s1, s2, s3, s4, s5⟩ := three R
      clear hA o5
      go_wp2_with fail
      refine bodyPost_ret (v := .tuple #[.agg #[.slice (some ⟨c', 0, none⟩) L.length cap', .int .i64 size, .int .i64 hand], .int .i64 0]) (by simp [results, Try.results33, go_sem, s0, s1, s2]) rfl ⟨c', cap', rfl, ?_, ?_⟩
      · exact ((r5.poke hne _ _).poke hne _ _).poke hne _ _
      · exact ((o6.setCell (q := ⟨w.heap.size + 1, 0, none⟩) (.inr (Nat.le_succ _)) _).setCell (q := ⟨w.heap.size + 1, 1, none⟩) (.inr (Nat.le_succ _)) _).setCell (q := ⟨w.heap.size + 1, 2, none⟩) (.inr (Nat.le_succ _)) _
    · rw [decide_eq_false h0, if_neg h0]
      simp only [Bool.and_false, Bool.false_eq_true, if_false]
      have hss : ((seg L j).state != 0) = true := by simpa using h0
      clear h0
      go_enter Try.func33, Try.ntmps33
      go_wp2_with fail
      exact bodyPost_ret (v := .tuple #[.agg #[.slice (some ⟨c, 0, none⟩) L.length cap, .int .i64 size, .int .i64 hand], .int .i64 103]) (by simp [results, Try.results33, go_sem]) rfl ⟨c, cap, rfl, (((ht.alloc _).alloc _).alloc _), (((Only.refl _ _).alloc _).alloc _).alloc _⟩

set_option maxHeartbeats 1000000 in
theorem rrel_any (cap : Nat) (i size hand : Int) (ht : RefAt w c L) (hL : L.length ≤ 512) (hv : LiveOk L size) :
    Calls Try.prog 34 #[.agg #[.slice (some ⟨c, 0, none⟩) L.length cap, .int .i64 size, .int .i64 hand], .int .i64 i] w
      (RefRes w (relL L i) L.length size hand (relC L i)) := by
  unfold relL relC
  cases hR : inR L i with
  | false =>
    simp only [Bool.false_and, Bool.false_eq_true, if_false]
    have h := inR_no hR
    clear hR
    by_cases h1 : i < 0
    · go_enter Try.func34, Try.ntmps34
      go_wp2_with fail
      exact bodyPost_ret (v := .tuple #[.agg #[.slice (some ⟨c, 0, none⟩) L.length cap, .int .i64 size, .int .i64 hand], .int .i64 22]) (by simp [results, Try.results34, go_sem]) rfl ⟨c, cap, rfl, ((ht.alloc _).alloc _), ((Only.refl _ _).alloc _).alloc _⟩
    · have h2 : (L.length : Int) ≤ i := by omega
      go_enter Try.func34, Try.ntmps34
      go_wp2_with fail
      exact bodyPost_ret (v := .tuple #[.agg #[.slice (some ⟨c, 0, none⟩) L.length cap, .int .i64 size, .int .i64 hand], .int .i64 22]) (by simp [results, Try.results34, go_sem]) rfl ⟨c, cap, rfl, ((ht.alloc _).alloc _), ((Only.refl _ _).alloc _).alloc _⟩
  | true =>
    obtain ⟨j, rfl, hj⟩ := inR_yes hR
    obtain ⟨hv1, hv2⟩ := hv j hj
    have v0 := fun o1 o2 => ((ht.alloc o1).alloc o2).live j hj
    have v1 := fun o1 o2 => ((ht.alloc o1).alloc o2).state j hj
    have v2 := fun o1 o2 => ((ht.alloc o1).alloc o2).age j hj
    clear hR
    simp only [if_true]
    show Calls _ _ _ _ (RefRes w (L.set j (relS (seg L j))) _ _ _ (relCode (seg L j)))
    by_cases h0 : (seg L j).state = 0
    · have e1 : relS (seg L j) = seg L j := by simp [relS, relOk, h0]
      have e2 : relCode (seg L j) = 103 := by rw [relCode, if_pos h0]
      rw [e1, e2, set_seg]
      have hss : ((seg L j).state == 0) = true := by simpa using h0
      clear h0 e1 e2
      go_enter Try.func34, Try.ntmps34
      go_wp2_with fail
      exact bodyPost_ret (v := .tuple #[.agg #[.slice (some ⟨c, 0, none⟩) L.length cap, .int .i64 size, .int .i64 hand], .int .i64 103]) (by simp [results, Try.results34, go_sem]) rfl ⟨c, cap, rfl, (((ht.alloc _).alloc _).alloc _), (((Only.refl _ _).alloc _).alloc _).alloc _⟩
    by_cases h2 : (seg L j).state = 2
    · have e1 : relS (seg L j) = seg L j := by simp [relS, relOk, h2]
      have e2 : relCode (seg L j) = 16 := by rw [relCode, if_neg h0, if_pos (.inl h2)]
      rw [e1, e2, set_seg]
      have hss : ((seg L j).state == 0) = false := by simpa using h0
      have hs2 : ((seg L j).state == 2) = true := by simpa using h2
      clear h0 h2 e1 e2
      go_enter Try.func34, Try.ntmps34
      go_wp2_with fail
      exact bodyPost_ret (v := .tuple #[.agg #[.slice (some ⟨c, 0, none⟩) L.length cap, .int .i64 size, .int .i64 hand], .int .i64 16]) (by simp [results, Try.results34, go_sem]) rfl ⟨c, cap, rfl, (((ht.alloc _).alloc _).alloc _), (((Only.refl _ _).alloc _).alloc _).alloc _⟩
    by_cases h3 : (seg L j).live = 0
    · have e1 : relS (seg L j) = ⟨(seg L j).live, 0, 0⟩ := by
        unfold relS
        rw [if_pos (by simp [relOk, h0, h2, h3])]
      have e2 : relCode (seg L j) = 0 := by rw [relCode, if_neg h0, if_neg (by omega)]
      rw [e1, e2]
      have hss : ((seg L j).state == 0) = false := by simpa using h0
      have hs2 : ((seg L j).state == 2) = false := by simpa using h2
      have hs3 : ((seg L j).live != 0) = false := by simpa using h3
      clear h0 h2 h3 e1 e2
      have hA := with_any cap j size hand ⟨(seg L j).live, 0, 0⟩ (w := ((w.alloc (.cells #[.slice (some ⟨c, 0, none⟩) L.length cap, .int .i64 size, .int .i64 hand] 52)).alloc (.cells #[.slice none 0 0, .int .i64 0, .int .i64 0] 52)).alloc (.cells #[.int .i64 (seg L j).live, .int .i64 0, .int .i64 0] 74)) (((ht.alloc _).alloc _).alloc _) hj hL
      go_enter Try.func34, Try.ntmps34
      go_wp2_with fail
      refine hA.mono ?_
      rintro e w5 ⟨c', cap', rfl, r5, o5⟩
      have R := res_block _ _ _ o5
      have o6 := res_only _ _ _ o5
      have hne := r5.ne52 R
      obtain ⟨s0, s1, s2, s3, s4, s5⟩ := three R
      clear hA o5
      go_wp2_with fail
      refine bodyPost_ret (v := .tuple #[.agg #[.slice (some ⟨c', 0, none⟩) L.length cap', .int .i64 size, .int .i64 hand], .int .i64 0]) (by simp [results, Try.results34, go_sem, s0, s1, s2]) rfl ⟨c', cap', rfl, ?_, ?_⟩
      · exact ((r5.poke hne _ _).poke hne _ _).poke hne _ _
      · exact ((o6.setCell (q := ⟨w.heap.size + 1, 0, none⟩) (.inr (Nat.le_succ _)) _).setCell (q := ⟨w.heap.size + 1, 1, none⟩) (.inr (Nat.le_succ _)) _).setCell (q := ⟨w.heap.size + 1, 2, none⟩) (.inr (Nat.le_succ _)) _
    · have e1 : relS (seg L j) = seg L j := if_neg (by simp [relOk]; omega)
      have e2 : relCode (seg L j) = 16 := by rw [relCode, if_neg h0, if_pos (.inr (by omega))]
      rw [e1, e2, set_seg]
      have hss : ((seg L j).state == 0) = false := by simpa using h0
      have hs2 : ((seg L j).state == 2) = false := by simpa using h2
      have hs3 : ((seg L j).live != 0) = true := by simpa using h3
      clear h0 h2 h3 e1 e2
      go_enter Try.func34, Try.ntmps34
      go_wp2_with fail
      exact bodyPost_ret (v := .tuple #[.agg #[.slice (some ⟨c, 0, none⟩) L.length cap, .int .i64 size, .int .i64 hand], .int .i64 16]) (by simp [results, Try.results34, go_sem]) rfl ⟨c, cap, rfl, (((ht.alloc _).alloc _).alloc _), (((Only.refl _ _).alloc _).alloc _).alloc _⟩
end
end Go.Proofs.Ytfjkdkkljfgboaa
