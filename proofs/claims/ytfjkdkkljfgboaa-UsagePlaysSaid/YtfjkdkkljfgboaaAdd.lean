/-
  The walks of usage's Add, Touch, Get, Use: what each answers on a table in memory. Conditions: the table's facts.
-/
import Derived.Test.YtfjkdkkljfgboaaTab
namespace Go.Proofs.Ytfjkdkkljfgboaa
open Go.RowKit
set_option linter.unusedVariables false
section
variable {w : World} {p c : Nat} {L : List Inf} {size hand : Int}

/-- Does n more fit? -/
def fits (L : List Inf) (size : Int) (i : Nat) (n : Int) : Prop := -(seg L i).live ≤ n ∧ n ≤ size - (seg L i).live

set_option maxHeartbeats 400000 in
theorem add_in_no (i bn bt : Nat) (n : Int) (ht : Tab w p c L size hand) (h : i < L.length) (hv : 0 ≤ (seg L i).live ∧ (seg L i).live ≤ size) (hs : size ≤ 64)
    (hbn : w.cell? ⟨bn, 0, none⟩ = some (.int .i64 n)) (hbt : w.cell? ⟨bt, 0, none⟩ = some (.pointer (some ⟨p, 0, none⟩))) (hf : ¬ fits L size i n) :
    Calls Try.prog 25 #[.pointer (some ⟨c, i * 3, none⟩), .pointer (some ⟨bn, 0, none⟩), .pointer (some ⟨bt, 0, none⟩)] w fun e w' =>
      e = .returned (.int .i64 22) ∧ Only (fun _ => False) w w' := by
  unfold fits at hf
  have hz := ht.sz
  have hl := ht.live i h
  obtain ⟨hv1, hv2⟩ := hv
  by_cases h1 : n < -(seg L i).live
  · have hd : decide (n < -(seg L i).live) = true := by simpa using h1
    clear hf
    go_enter Try.func25, Try.ntmps25
    go_wp2
    go_quiet (fail)
    go_wp2
    go_ret
    exact ⟨rfl, (Only.refl _ _).drewN _⟩
  · have hd : decide (n < -(seg L i).live) = false := by simp; omega
    have h2 : size - (seg L i).live < n := by omega
    clear hf
    go_enter Try.func25, Try.ntmps25
    go_wp2
    go_quiet (fail)
    go_wp2
    go_ret
    exact ⟨rfl, (Only.refl _ _).drewN _⟩

set_option maxHeartbeats 400000 in
theorem add_in_ok (i bn bt : Nat) (n : Int) (ht : Tab w p c L size hand) (h : i < L.length) (hv : 0 ≤ (seg L i).live ∧ (seg L i).live ≤ size) (hs : size ≤ 64)
    (hbn : w.cell? ⟨bn, 0, none⟩ = some (.int .i64 n)) (hbt : w.cell? ⟨bt, 0, none⟩ = some (.pointer (some ⟨p, 0, none⟩))) (hf : fits L size i n) :
    Calls Try.prog 25 #[.pointer (some ⟨c, i * 3, none⟩), .pointer (some ⟨bn, 0, none⟩), .pointer (some ⟨bt, 0, none⟩)] w fun e w' =>
      e = .returned (.int .i64 0) ∧ Tab w' p c (L.set i { seg L i with live := (seg L i).live + n }) size hand ∧ Only (Two p c) w w' := by
  obtain ⟨hf1, hf2⟩ := hf
  have hz := ht.sz
  have hl := ht.live i h
  have f1 := ht.fc (i * 3)
  obtain ⟨hv1, hv2⟩ := hv
  have hd : decide (n < -(seg L i).live) = false := by simp; omega
  go_enter Try.func25, Try.ntmps25
  go_wp2
  go_quiet (fail)
  go_wp2
  go_region
  all_goals
    go_wp2
    go_ret
    exact ⟨rfl, (ht.drewN (nq + 1)).setLive i h _, ((Only.refl _ w).drewN (nq + 1)).setCell (.inl (.inr rfl)) _⟩

theorem cell_alloc_new (w : World) (v : Value) (t : TypeId) : (w.alloc (.cells #[v] t)).cell? ⟨w.heap.size, 0, none⟩ = some v := by simp
theorem cell_alloc_old (w : World) (o : Obj) (b k : Nat) (v : Value) (h : w.cell? ⟨b, k, none⟩ = some v) : (w.alloc o).cell? ⟨b, k, none⟩ = some v := by
  rw [World.cell?_alloc_lt _ _ _ (World.block_lt_of_cell? _ _ h)]; exact h

/-- The world behind the boxes of t and of n. -/
def boxed (w : World) (p : Nat) (n : Int) : World := (w.alloc (.cells #[.pointer (some ⟨p, 0, none⟩)] 24)).alloc (.cells #[.int .i64 n] 3)
theorem boxed_n (w : World) (p : Nat) (n : Int) : (boxed w p n).cell? ⟨w.heap.size + 1, 0, none⟩ = some (.int .i64 n) := by
  have h := cell_alloc_new (w.alloc (.cells #[.pointer (some ⟨p, 0, none⟩)] 24)) (.int .i64 n) 3
  rw [World.size_alloc] at h
  exact h
theorem boxed_t (w : World) (p : Nat) (n : Int) : (boxed w p n).cell? ⟨w.heap.size, 0, none⟩ = some (.pointer (some ⟨p, 0, none⟩)) :=
  cell_alloc_old _ _ _ _ _ (cell_alloc_new _ _ _)
theorem boxed_only (w : World) (p : Nat) (n : Int) (S : Nat → Prop) : Only S w (boxed w p n) := ((Only.refl _ _).alloc _).alloc _

theorem add_ok (i : Nat) (n : Int) (ht : Tab w p c L size hand) (h : i < L.length) (hv : 0 ≤ (seg L i).live ∧ (seg L i).live ≤ size) (hs : size ≤ 64) (hf : fits L size i n) :
    Calls Try.prog 13 #[.pointer (some ⟨p, 0, none⟩), .int .i64 i, .int .i64 n] w fun e w' =>
      e = .returned (.int .i64 0) ∧ Tab w' p c (L.set i { seg L i with live := (seg L i).live + n }) size hand ∧ Only (Two p c) w w' := by
  have hA := add_in_ok i (w.heap.size + 1) w.heap.size n (w := boxed w p n) ((ht.alloc _).alloc _) h hv hs (boxed_n w p n) (boxed_t w p n) hf
  have hl : (boxed w p n).cell? ⟨p, 0, none⟩ = _ := cell_alloc_old _ _ _ _ _ (cell_alloc_old _ _ _ _ _ ht.l)
  unfold boxed at hl
  go_enter Try.func13, Try.ntmps13
  go_wp2_with (go_at_call 23; go_in)
  refine hA.mono ?_
  rintro e w' ⟨rfl, t', o'⟩
  clear hA hl
  go_wp2_with fail
  go_ret
  exact ⟨rfl, t', (boxed_only w p n _).trans o'⟩

theorem add_no (i : Nat) (n : Int) (ht : Tab w p c L size hand) (h : i < L.length) (hv : 0 ≤ (seg L i).live ∧ (seg L i).live ≤ size) (hs : size ≤ 64) (hf : ¬ fits L size i n) :
    Calls Try.prog 13 #[.pointer (some ⟨p, 0, none⟩), .int .i64 i, .int .i64 n] w fun e w' =>
      e = .returned (.int .i64 22) ∧ Only (fun _ => False) w w' := by
  have hA := add_in_no i (w.heap.size + 1) w.heap.size n (w := boxed w p n) ((ht.alloc _).alloc _) h hv hs (boxed_n w p n) (boxed_t w p n) hf
  have hl : (boxed w p n).cell? ⟨p, 0, none⟩ = _ := cell_alloc_old _ _ _ _ _ (cell_alloc_old _ _ _ _ _ ht.l)
  unfold boxed at hl
  go_enter Try.func13, Try.ntmps13
  go_wp2_with (go_at_call 23; go_in)
  refine hA.mono ?_
  rintro e w' ⟨rfl, o'⟩
  clear hA hl
  go_wp2_with fail
  go_ret
  exact ⟨rfl, (boxed_only w p n _).trans o'⟩

theorem add_out (i n : Int) (ht : Tab w p c L size hand) (h : i < 0 ∨ L.length ≤ i) :
    Calls Try.prog 13 #[.pointer (some ⟨p, 0, none⟩), .int .i64 i, .int .i64 n] w fun e w' =>
      e = .returned (.int .i64 22) ∧ Only (fun _ => False) w w' := by
  have hl : (boxed w p n).cell? ⟨p, 0, none⟩ = _ := cell_alloc_old _ _ _ _ _ (cell_alloc_old _ _ _ _ _ ht.l)
  unfold boxed at hl
  by_cases h1 : i < 0
  · go_enter Try.func13, Try.ntmps13
    go_wp2_with (go_at_call 23; go_in)
    go_ret
    exact ⟨rfl, boxed_only w p n _⟩
  · have h2 : (L.length : Int) ≤ i := by omega
    go_enter Try.func13, Try.ntmps13
    go_wp2_with (go_at_call 23; go_in)
    go_ret
    exact ⟨rfl, boxed_only w p n _⟩
end
end Go.Proofs.Ytfjkdkkljfgboaa
