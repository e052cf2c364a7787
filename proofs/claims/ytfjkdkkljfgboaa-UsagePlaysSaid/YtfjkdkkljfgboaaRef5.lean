/-
  The walks of the document's own table (package marlref10), part five: New, Count, Total, Ints. Conditions: the table's facts.
-/
import Derived.Test.YtfjkdkkljfgboaaRef2
import Derived.Test.YtfjkdkkljfgboaaAwake
namespace Go.Proofs.Ytfjkdkkljfgboaa
open Go.RowKit
set_option linter.unusedVariables false

theorem run_rnew (w : World) (n : Nat) (h : n ≤ 512) : (Instr.makeSlice 50 (.int .i64 n) (.int .i64 n)).run Try.prog w =
    .ok (.slice (some ⟨w.heap.size, 0, none⟩) n n) (w.alloc (.cells (flat (List.replicate n Inf.zero)).toArray 74)) := by
  obtain ⟨i0, hi, hz0, hz1, hz2⟩ := info_parts Try.info74
  have := run_make (P := Try.prog) w 50 74 i0 _ Try.underlying50 hi hz0 .i64 .i64 (n : Int) (n : Int) (by omega) (by omega) (by rw [hz2]; omega) (by omega)
  rw [hz1] at this
  simp only [Value.cells, Int.toNat_natCast, madeCells_flat] at this
  exact this

theorem rnew_ok (n size : Nat) (w : World) (h1 : 1 ≤ n) (h2 : n ≤ 512) (h3 : 1 ≤ size) (h4 : size ≤ 64) :
    Calls Try.prog 19 #[.int .i64 n, .int .i64 size] w (RefRes w (List.replicate n Inf.zero) n size ((n : Int) - 1) 0) := by
  have hmk := fun w => run_rnew w n h2
  go_enter Try.func19, Try.ntmps19
  go_wp2
  refine bodyPost_ret (v := .tuple #[.agg #[.slice (some ⟨w.heap.size + 1, 0, none⟩) n n, .int .i64 size, .int .i64 ((n : Int) - 1)], .int .i64 0]) (by simp [results, Try.results19, go_sem]) rfl ⟨w.heap.size + 1, n, rfl, ?_, ?_⟩
  · have h := heap_alloc_new (w.alloc (.cells #[.slice (some ⟨w.heap.size + 1, 0, none⟩) n n, .int .i64 size, .int .i64 ((n : Int) - 1)] 52)) (.cells (flat (List.replicate n Inf.zero)).toArray 74)
    rw [World.size_alloc] at h
    exact ⟨_, h, List.take_of_length_le (by rw [flat_length]; exact Nat.le_refl _)⟩
  · exact ((Only.refl _ _).alloc _).alloc _

theorem rnew_no (n size : Int) (w : World) (h : n < 1 ∨ 512 < n ∨ size < 1 ∨ 64 < size) :
    Calls Try.prog 19 #[.int .i64 n, .int .i64 size] w fun e w' =>
      e = .returned (.tuple #[.agg #[.slice none 0 0, .int .i64 0, .int .i64 0], .int .i64 22]) ∧ Only (fun _ => False) w w' := by
  by_cases h1 : n < 1
  · go_enter Try.func19, Try.ntmps19
    go_wp2
    exact bodyPost_ret (v := .tuple #[.agg #[.slice none 0 0, .int .i64 0, .int .i64 0], .int .i64 22]) (by simp [results, Try.results19, go_sem]) rfl ⟨rfl, (Only.refl _ _).alloc _⟩
  by_cases h2 : 512 < n
  · go_enter Try.func19, Try.ntmps19
    go_wp2
    exact bodyPost_ret (v := .tuple #[.agg #[.slice none 0 0, .int .i64 0, .int .i64 0], .int .i64 22]) (by simp [results, Try.results19, go_sem]) rfl ⟨rfl, (Only.refl _ _).alloc _⟩
  by_cases h3 : size < 1
  · go_enter Try.func19, Try.ntmps19
    go_wp2
    exact bodyPost_ret (v := .tuple #[.agg #[.slice none 0 0, .int .i64 0, .int .i64 0], .int .i64 22]) (by simp [results, Try.results19, go_sem]) rfl ⟨rfl, (Only.refl _ _).alloc _⟩
  · have h4 : 64 < size := by omega
    go_enter Try.func19, Try.ntmps19
    go_wp2
    exact bodyPost_ret (v := .tuple #[.agg #[.slice none 0 0, .int .i64 0, .int .i64 0], .int .i64 22]) (by simp [results, Try.results19, go_sem]) rfl ⟨rfl, (Only.refl _ _).alloc _⟩

section
variable {w : World} {c : Nat} {L : List Inf}

set_option maxHeartbeats 1000000 in
theorem rcount_any (cap : Nat) (st size hand : Int) (ht : RefAt w c L) (hL : L.length ≤ 512) :
    Calls Try.prog 38 #[.agg #[.slice (some ⟨c, 0, none⟩) L.length cap, .int .i64 size, .int .i64 hand], .int .i64 st] w fun e w' => e = .returned (.int .i64 (countL L st)) ∧ Only (fun _ => False) w w' := by
  have hr := ht.alloc (.cells #[.slice (some ⟨c, 0, none⟩) L.length cap, .int .i64 size, .int .i64 hand] 52)
  have v1 := fun k hk => hr.state k hk
  have V1 := Lib.hid v1
  clear v1 hr
  go_enter Try.func38, Try.ntmps38
  go_wp2
  go_loop [10, 5] (fun i n => ∃ k : Nat, k ≤ L.length ∧ i = .int .i64 k ∧ n = .int .i64 (countL (L.take k) st : Nat)) (fun i _ => L.length - (intOf i).toNat)
  case atStart => exact ⟨0, Nat.zero_le _, rfl, rfl⟩
  case round =>
    obtain ⟨k, hk, rfl, rfl⟩ := hrel
    have hb := countL_le L st k
    by_cases hlt : k < L.length
    · have h1 := V1.out k hlt
      have hc := countL_take L st k hlt
      by_cases he : (seg L k).state = st
      · have hee : ((seg L k).state == st) = true := by simpa using he
        rw [if_pos he] at hc
        have HC := Lib.hid hc
        clear hc he
        go_wp2
        go_round
        case rel => exact ⟨k + 1, by omega, by go_num, by rw [HC.out]; go_num⟩
        case measure => simp [intOf]; omega
      · have hee : ((seg L k).state == st) = false := by simpa using he
        rw [if_neg he] at hc
        have HC := Lib.hid hc
        clear hc he
        go_wp2
        go_round
        case rel => exact ⟨k + 1, by omega, by go_num, by rw [HC.out]; go_num⟩
        case measure => simp [intOf]; omega
    · go_wp2
      go_ret
      have e : L.take k = L := List.take_of_length_le (by omega)
      rw [e]
      exact ⟨rfl, (Only.refl _ _).alloc _⟩

set_option maxHeartbeats 1000000 in
theorem rtotal_any (cap : Nat) (size hand : Int) (ht : RefAt w c L) (hL : L.length ≤ 512) (hv : LiveOk L size) (hs : size ≤ 64) :
    Calls Try.prog 39 #[.agg #[.slice (some ⟨c, 0, none⟩) L.length cap, .int .i64 size, .int .i64 hand]] w fun e w' => e = .returned (.int .i64 (totalL L)) ∧ Only (fun _ => False) w w' := by
  have hr := ht.alloc (.cells #[.slice (some ⟨c, 0, none⟩) L.length cap, .int .i64 size, .int .i64 hand] 52)
  have V1 := Lib.hid (fun k hk => hr.live k hk)
  clear hr
  go_enter Try.func39, Try.ntmps39
  go_wp2
  go_loop [8, 3] (fun i n => ∃ k : Nat, k ≤ L.length ∧ i = .int .i64 k ∧ n = .int .i64 (totalL (L.take k))) (fun i _ => L.length - (intOf i).toNat)
  case atStart => exact ⟨0, Nat.zero_le _, rfl, rfl⟩
  case round =>
    obtain ⟨k, hk, rfl, rfl⟩ := hrel
    obtain ⟨hb1, hb2⟩ := totalL_bd L size hv hs k hk
    by_cases hlt : k < L.length
    · have h1 := V1.out k hlt
      obtain ⟨hv1, hv2⟩ := hv k hlt
      have HC := Lib.hid (totalL_take L k hlt)
      go_wp2
      go_round
      case rel => exact ⟨k + 1, by omega, by go_num, by rw [HC.out]⟩
      case measure => simp [intOf]; omega
    · go_wp2
      go_ret
      have e : L.take k = L := List.take_of_length_le (by omega)
      rw [e]
      exact ⟨rfl, (Only.refl _ _).alloc _⟩

/-! ### Ints -/
/-- A slice of ints in memory. -/
def IntSl (w : World) (v : Value) (l : List Int) : Prop :=
  ∃ a cap, v = .slice a l.length cap ∧ ∀ j, j < l.length → ∃ g, a = some ⟨g, 0, none⟩ ∧ w.cell? ⟨g, j, none⟩ = some (.int .i64 (l.getD j 0))

theorem ints_any (v v' : Value) (l : List Int) (hl : l.length ≤ 512) (h : IntSl w v l) (h' : IntSl w v' l) :
    Calls Try.prog 36 #[v, v'] w fun e w' => e = .returned (.bool true) ∧ Only (fun _ => False) w w' := by
  obtain ⟨a, cap, rfl, hc⟩ := h
  obtain ⟨a', cap', rfl, hc'⟩ := h'
  have H := Lib.hid hc
  have H' := Lib.hid hc'
  clear hc hc'
  generalize l.length = n at *
  go_enter Try.func36, Try.ntmps36
  go_wp2
  go_loopw [13] (fun i wr => ∃ k : Nat, k ≤ n ∧ i = .int .i64 k ∧ ∃ q, wr = w.drewN q) (fun i _ => n - (intOf i).toNat)
  case atStart => exact ⟨0, Nat.zero_le _, rfl, 0, rfl⟩
  case round =>
    obtain ⟨k, hk, rfl, q, rfl⟩ := hrel
    by_cases hlt : k < n
    · obtain ⟨g, rfl, h1⟩ := H.out k hlt
      obtain ⟨g', rfl, h2⟩ := H'.out k hlt
      go_wp2
      go_quiet (fail)
      go_wp2
      go_roundw
      case rel => exact ⟨k + 1, by omega, by go_num, q + nq, rfl⟩
      case measure => simp [intOf]; omega
    · go_wp2
      go_ret
      exact ⟨rfl, (Only.refl _ _).drewN _⟩
end
end Go.Proofs.Ytfjkdkkljfgboaa
