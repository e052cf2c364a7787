/-
  The walks of usage's Get, Touch, Use: what each answers on a table in memory. Conditions: the table's facts.
-/
import Derived.Test.YtfjkdkkljfgboaaAdd
namespace Go.Proofs.Ytfjkdkkljfgboaa
open Go.RowKit
set_option linter.unusedVariables false
section
variable {w : World} {p c : Nat} {L : List Inf} {size hand : Int}

def zeroCells3 : Array Value := #[.int .i64 0, .int .i64 0, .int .i64 0]
def outs (w : World) : World := (w.alloc (.cells #[.int .i64 0, .int .i64 0, .int .i64 0] 38)).alloc (.cells #[.int .i64 0, .int .i64 0, .int .i64 0] 38)

set_option maxHeartbeats 400000 in
theorem get_ok (i : Nat) (ht : Tab w p c L size hand) (h : i < L.length) :
    Calls Try.prog 14 #[.pointer (some ⟨p, 0, none⟩), .int .i64 i] w fun e w' =>
      e = .returned (.tuple #[.agg #[.int .i64 (seg L i).live, .int .i64 (seg L i).state, .int .i64 (seg L i).age], .int .i64 0]) ∧ Only (fun _ => False) w w' := by
  have hl : (outs w).cell? ⟨p, 0, none⟩ = _ := cell_alloc_old _ _ _ _ _ (cell_alloc_old _ _ _ _ _ ht.l)
  have h0 : (outs w).cell? ⟨c, i * 3, none⟩ = _ := cell_alloc_old _ _ _ _ _ (cell_alloc_old _ _ _ _ _ (ht.live i h))
  have h1 : (outs w).cell? ⟨c, i * 3 + 1, none⟩ = _ := cell_alloc_old _ _ _ _ _ (cell_alloc_old _ _ _ _ _ (ht.state i h))
  have h2 : (outs w).cell? ⟨c, i * 3 + 2, none⟩ = _ := cell_alloc_old _ _ _ _ _ (cell_alloc_old _ _ _ _ _ (ht.age i h))
  unfold outs at hl h0 h1 h2
  go_enter Try.func14, Try.ntmps14
  go_wp2
  refine bodyPost_ret (v := .tuple #[.agg #[.int .i64 (seg L i).live, .int .i64 (seg L i).state, .int .i64 (seg L i).age], .int .i64 0]) (by simp [results, Try.results14, go_sem]) rfl ⟨rfl, ?_⟩
  exact ((Only.refl _ _).alloc _).alloc _

theorem get_out (i : Int) (ht : Tab w p c L size hand) (h : i < 0 ∨ L.length ≤ i) :
    Calls Try.prog 14 #[.pointer (some ⟨p, 0, none⟩), .int .i64 i] w fun e w' =>
      e = .returned (.tuple #[.agg #[.int .i64 0, .int .i64 0, .int .i64 0], .int .i64 22]) ∧ Only (fun _ => False) w w' := by
  have hl : (outs w).cell? ⟨p, 0, none⟩ = _ := cell_alloc_old _ _ _ _ _ (cell_alloc_old _ _ _ _ _ ht.l)
  unfold outs at hl
  by_cases h1 : i < 0
  · go_enter Try.func14, Try.ntmps14
    go_wp2
    refine bodyPost_ret (v := .tuple #[.agg #[.int .i64 0, .int .i64 0, .int .i64 0], .int .i64 22]) (by simp [results, Try.results14, go_sem]) rfl ⟨rfl, ?_⟩
    exact ((Only.refl _ _).alloc _).alloc _
  · have h2 : (L.length : Int) ≤ i := by omega
    go_enter Try.func14, Try.ntmps14
    go_wp2
    refine bodyPost_ret (v := .tuple #[.agg #[.int .i64 0, .int .i64 0, .int .i64 0], .int .i64 22]) (by simp [results, Try.results14, go_sem]) rfl ⟨rfl, ?_⟩
    exact ((Only.refl _ _).alloc _).alloc _

/-! ### Use -/
theorem use_out (i : Int) (ht : Tab w p c L size hand) (h : i < 0 ∨ L.length ≤ i) :
    Calls Try.prog 16 #[.pointer (some ⟨p, 0, none⟩), .int .i64 i] w fun e w' => e = .returned (.int .i64 22) ∧ w' = w := by
  have hl := ht.l
  by_cases h1 : i < 0
  · go_enter Try.func16, Try.ntmps16
    go_wp2
    go_ret
    exact ⟨rfl, rfl⟩
  · have h2 : (L.length : Int) ≤ i := by omega
    go_enter Try.func16, Try.ntmps16
    go_wp2
    go_ret
    exact ⟨rfl, rfl⟩

theorem use_no (i : Nat) (ht : Tab w p c L size hand) (h : i < L.length) (hst : (seg L i).state ≠ 0) :
    Calls Try.prog 16 #[.pointer (some ⟨p, 0, none⟩), .int .i64 i] w fun e w' => e = .returned (.int .i64 103) ∧ w' = w := by
  have hl := ht.l
  have hs := ht.state i h
  have hss : ((seg L i).state != 0) = true := by simpa using hst
  clear hst
  go_enter Try.func16, Try.ntmps16
  go_wp2
  go_ret
  exact ⟨rfl, rfl⟩

theorem use_ok (i : Nat) (ht : Tab w p c L size hand) (h : i < L.length) (hst : (seg L i).state = 0) :
    Calls Try.prog 16 #[.pointer (some ⟨p, 0, none⟩), .int .i64 i] w fun e w' => e = .returned (.int .i64 0) ∧
      Tab w' p c (L.set i { seg L i with state := 1 }) size hand ∧ Only (Two p c) w w' := by
  have hl := ht.l
  have hs := ht.state i h
  have f1 := ht.fc (i * 3 + 1)
  have hss : ((seg L i).state != 0) = false := by simpa using hst
  clear hst
  go_enter Try.func16, Try.ntmps16
  go_wp2
  go_ret
  exact ⟨rfl, ht.setState i h 1, (Only.refl _ w).setCell (.inl (.inr rfl)) _⟩

/-! ### Touch -/
def boxed1 (w : World) (n : Int) : World := w.alloc (.cells #[.int .i64 n] 3)

theorem touch_out (i n : Int) (ht : Tab w p c L size hand) (h : i < 0 ∨ L.length ≤ i) :
    Calls Try.prog 29 #[.pointer (some ⟨p, 0, none⟩), .int .i64 i, .int .i64 n] w fun e w' => e = .returned (.int .i64 22) ∧ Only (fun _ => False) w w' := by
  have hl : (boxed1 w n).cell? ⟨p, 0, none⟩ = _ := cell_alloc_old _ _ _ _ _ ht.l
  unfold boxed1 at hl
  by_cases h1 : i < 0
  · go_enter Try.func29, Try.ntmps29
    go_wp2
    go_ret
    exact ⟨rfl, (Only.refl _ _).alloc _⟩
  · have h2 : (L.length : Int) ≤ i := by omega
    go_enter Try.func29, Try.ntmps29
    go_wp2
    go_ret
    exact ⟨rfl, (Only.refl _ _).alloc _⟩

theorem touch_no (i : Nat) (n : Int) (ht : Tab w p c L size hand) (h : i < L.length) (hn : n < 0) :
    Calls Try.prog 29 #[.pointer (some ⟨p, 0, none⟩), .int .i64 i, .int .i64 n] w fun e w' => e = .returned (.int .i64 22) ∧ Only (fun _ => False) w w' := by
  have hl : (boxed1 w n).cell? ⟨p, 0, none⟩ = _ := cell_alloc_old _ _ _ _ _ ht.l
  unfold boxed1 at hl
  go_enter Try.func29, Try.ntmps29
  go_wp2
  go_ret
  exact ⟨rfl, (Only.refl _ _).alloc _⟩

theorem touch_in_ok (i bn : Nat) (n : Int) (ht : Tab w p c L size hand) (h : i < L.length) (hn : 0 ≤ n)
    (hbn : w.cell? ⟨bn, 0, none⟩ = some (.int .i64 n)) :
    Calls Try.prog 40 #[.pointer (some ⟨c, i * 3, none⟩), .pointer (some ⟨bn, 0, none⟩)] w fun e w' =>
      e = .returned (.int .i64 0) ∧ Tab w' p c (L.set i { seg L i with age := max (seg L i).age n }) size hand ∧ Only (Two p c) w w' := by
  have ha := ht.age i h
  have f1 := ht.fc (i * 3 + 2)
  by_cases hm : (seg L i).age < n
  · have e : max (seg L i).age n = n := by omega
    rw [e]
    clear e
    go_enter Try.func40, Try.ntmps40
    go_wp2
    go_region
    go_wp2
    go_ret
    exact ⟨rfl, (ht.setAge i h n).drew, ((Only.refl _ w).setCell (.inl (.inr rfl)) _).drew⟩
  · have e : max (seg L i).age n = (seg L i).age := by omega
    rw [e]
    clear e
    go_enter Try.func40, Try.ntmps40
    go_wp2
    go_region
    go_wp2
    go_ret
    exact ⟨rfl, (ht.setAge i h _).drew, ((Only.refl _ w).setCell (.inl (.inr rfl)) _).drew⟩

theorem touch_ok (i : Nat) (n : Int) (ht : Tab w p c L size hand) (h : i < L.length) (hn : 0 ≤ n) :
    Calls Try.prog 29 #[.pointer (some ⟨p, 0, none⟩), .int .i64 i, .int .i64 n] w fun e w' =>
      e = .returned (.int .i64 0) ∧ Tab w' p c (L.set i { seg L i with age := max (seg L i).age n }) size hand ∧ Only (Two p c) w w' := by
  have hA := touch_in_ok i w.heap.size n (w := boxed1 w n) (ht.alloc _) h hn (cell_alloc_new _ _ _)
  have hl : (boxed1 w n).cell? ⟨p, 0, none⟩ = _ := cell_alloc_old _ _ _ _ _ ht.l
  unfold boxed1 at hl
  go_enter Try.func29, Try.ntmps29
  go_wp2_with (go_at_call 23; go_in)
  refine hA.mono ?_
  rintro e w' ⟨rfl, t', o'⟩
  clear hA hl
  go_wp2_with fail
  go_ret
  exact ⟨rfl, t', ((Only.refl _ w).alloc _).trans o'⟩
end
end Go.Proofs.Ytfjkdkkljfgboaa
