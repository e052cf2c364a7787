/-
  The walks of the document's own table (package marlref10), part two: Add, Touch, Use, Release. Conditions: the table's facts.
-/
import Derived.Test.YtfjkdkkljfgboaaRef
namespace Go.Proofs.Ytfjkdkkljfgboaa
open Go.RowKit
set_option linter.unusedVariables false

/-- What a call of the document's answers: a table and a code. -/
def RefRes (w : World) (L' : List Inf) (n : Nat) (size hand code : Int) (e : Ending) (w' : World) : Prop :=
  ∃ c' cap', e = .returned (.tuple #[.agg #[.slice (some ⟨c', 0, none⟩) n cap', .int .i64 size, .int .i64 hand], .int .i64 code]) ∧ RefAt w' c' L' ∧ Only (fun _ => False) w w'

theorem RefAt.ne52 {w : World} {c k : Nat} {L : List Inf} {cs : Array Value} (h : RefAt w c L) (R : w.heap[k]? = some (.cells cs 52)) : ¬ k = c := by
  rintro rfl
  obtain ⟨cur, h1, _⟩ := h
  rw [R] at h1
  simp at h1

/-- The result's block, behind three blocks and a call that only makes memory. -/
theorem res_block {w w5 : World} (A B C : Obj) (o : Only (fun _ => False) (((w.alloc A).alloc B).alloc C) w5) : w5.heap[w.heap.size + 1]? = some B := by
  rw [o.block (w.heap.size + 1) (by simp) (fun h => h), Below.heap_alloc _ _ _ (by simp)]
  have h := heap_alloc_new (w.alloc A) B
  rw [World.size_alloc] at h
  exact h
theorem res_only {w w5 : World} (A B C : Obj) (o : Only (fun _ => False) (((w.alloc A).alloc B).alloc C) w5) : Only (fun _ => False) w w5 :=
  ((((Only.refl _ w).alloc A).alloc B).alloc C).trans o

section
variable {w : World} {c : Nat} {L : List Inf}

set_option maxHeartbeats 1000000 in
theorem radd_any (cap : Nat) (i n size hand : Int) (ht : RefAt w c L) (hL : L.length ≤ 512) (hv : LiveOk L size) (hs : size ≤ 64) :
    Calls Try.prog 30 #[.agg #[.slice (some ⟨c, 0, none⟩) L.length cap, .int .i64 size, .int .i64 hand], .int .i64 i, .int .i64 n] w
      (RefRes w (addL L size i n) L.length size hand (addC L size i n)) := by
  unfold addL addC
  cases hR : inR L i with
  | false =>
    simp only [Bool.false_and, Bool.false_eq_true, if_false]
    have h := inR_no hR
    clear hR
    by_cases h1 : i < 0
    · go_enter Try.func30, Try.ntmps30
      go_wp2_with fail
      exact bodyPost_ret (v := .tuple #[.agg #[.slice (some ⟨c, 0, none⟩) L.length cap, .int .i64 size, .int .i64 hand], .int .i64 22]) (by simp [results, Try.results30, go_sem]) rfl ⟨c, cap, rfl, ((ht.alloc _).alloc _), ((Only.refl _ _).alloc _).alloc _⟩
    · have h2 : (L.length : Int) ≤ i := by omega
      go_enter Try.func30, Try.ntmps30
      go_wp2_with fail
      exact bodyPost_ret (v := .tuple #[.agg #[.slice (some ⟨c, 0, none⟩) L.length cap, .int .i64 size, .int .i64 hand], .int .i64 22]) (by simp [results, Try.results30, go_sem]) rfl ⟨c, cap, rfl, ((ht.alloc _).alloc _), ((Only.refl _ _).alloc _).alloc _⟩
  | true =>
    obtain ⟨j, rfl, hj⟩ := inR_yes hR
    obtain ⟨hv1, hv2⟩ := hv j hj
    have v0 := fun o1 o2 => ((ht.alloc o1).alloc o2).live j hj
    have v1 := fun o1 o2 => ((ht.alloc o1).alloc o2).state j hj
    have v2 := fun o1 o2 => ((ht.alloc o1).alloc o2).age j hj
    have hji : ¬ (L.length : Int) ≤ (j : Int) := by omega
    clear hR
    cases hf : fitsB (seg L (j : Int).toNat) size n with
    | false =>
      have hf' : ¬ (-(seg L j).live ≤ n ∧ n ≤ size - (seg L j).live) := of_decide_eq_false hf
      simp only [Bool.and_false, Bool.false_eq_true, if_false]
      clear hf
      by_cases h1 : 64 < n
      · go_enter Try.func30, Try.ntmps30
        go_wp2_with fail
        exact bodyPost_ret (v := .tuple #[.agg #[.slice (some ⟨c, 0, none⟩) L.length cap, .int .i64 size, .int .i64 hand], .int .i64 22]) (by simp [results, Try.results30, go_sem]) rfl ⟨c, cap, rfl, ((ht.alloc _).alloc _), ((Only.refl _ _).alloc _).alloc _⟩
      by_cases h2 : n < -64
      · go_enter Try.func30, Try.ntmps30
        go_wp2_with fail
        exact bodyPost_ret (v := .tuple #[.agg #[.slice (some ⟨c, 0, none⟩) L.length cap, .int .i64 size, .int .i64 hand], .int .i64 22]) (by simp [results, Try.results30, go_sem]) rfl ⟨c, cap, rfl, ((ht.alloc _).alloc _), ((Only.refl _ _).alloc _).alloc _⟩
      by_cases h3 : (seg L j).live + n < 0
      · go_enter Try.func30, Try.ntmps30
        go_wp2_with fail
        exact bodyPost_ret (v := .tuple #[.agg #[.slice (some ⟨c, 0, none⟩) L.length cap, .int .i64 size, .int .i64 hand], .int .i64 22]) (by simp [results, Try.results30, go_sem]) rfl ⟨c, cap, rfl, (((ht.alloc _).alloc _).alloc _), (((Only.refl _ _).alloc _).alloc _).alloc _⟩
      · have h4 : size < (seg L j).live + n := by omega
        go_enter Try.func30, Try.ntmps30
        go_wp2_with fail
        exact bodyPost_ret (v := .tuple #[.agg #[.slice (some ⟨c, 0, none⟩) L.length cap, .int .i64 size, .int .i64 hand], .int .i64 22]) (by simp [results, Try.results30, go_sem]) rfl ⟨c, cap, rfl, (((ht.alloc _).alloc _).alloc _), (((Only.refl _ _).alloc _).alloc _).alloc _⟩
    | true =>
      have hf' : -(seg L j).live ≤ n ∧ n ≤ size - (seg L j).live := of_decide_eq_true hf
      obtain ⟨hf1, hf2⟩ := hf'
      simp only [Bool.and_self, if_true]
      clear hf
      have h1 : n ≤ 64 := by omega
      have h2 : -64 ≤ n := by omega
      have h3 : 0 ≤ (seg L j).live + n := by omega
      have h4 : (seg L j).live + n ≤ size := by omega
      have hA := with_any cap j size hand { seg L j with live := (seg L j).live + n } (w := ((w.alloc (.cells #[.slice (some ⟨c, 0, none⟩) L.length cap, .int .i64 size, .int .i64 hand] 52)).alloc (.cells #[.slice none 0 0, .int .i64 0, .int .i64 0] 52)).alloc (.cells #[.int .i64 ((seg L j).live + n), .int .i64 (seg L j).state, .int .i64 (seg L j).age] 74)) (((ht.alloc _).alloc _).alloc _) hj hL
      go_enter Try.func30, Try.ntmps30
      go_wp2_with fail
      refine hA.mono ?_
      rintro e w5 ⟨c', cap', rfl, r5, o5⟩
      have R := res_block _ _ _ o5
      have o6 := res_only _ _ _ o5
      have hne := r5.ne52 R
      obtain ⟨s0, s1, s2, s3, s4, s5⟩ := three R
      clear hA o5
      go_wp2_with fail
      refine bodyPost_ret (v := .tuple #[.agg #[.slice (some ⟨c', 0, none⟩) L.length cap', .int .i64 size, .int .i64 hand], .int .i64 0]) (by simp [results, Try.results30, go_sem, s0, s1, s2]) rfl ⟨c', cap', rfl, ?_, ?_⟩
      · exact ((r5.poke hne _ _).poke hne _ _).poke hne _ _
      · exact ((o6.setCell (q := ⟨w.heap.size + 1, 0, none⟩) (.inr (Nat.le_succ _)) _).setCell (q := ⟨w.heap.size + 1, 1, none⟩) (.inr (Nat.le_succ _)) _).setCell (q := ⟨w.heap.size + 1, 2, none⟩) (.inr (Nat.le_succ _)) _
end
end Go.Proofs.Ytfjkdkkljfgboaa
