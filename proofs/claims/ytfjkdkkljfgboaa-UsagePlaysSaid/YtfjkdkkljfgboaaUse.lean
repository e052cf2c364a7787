/-
  The walks of package usage: what each function answers on a table in memory. Conditions: the table's facts.
-/
import Derived.Test.YtfjkdkkljfgboaaTab
namespace Go.Proofs.Ytfjkdkkljfgboaa
open Go.RowKit

theorem madeCells_flat (n : Nat) : madeCells #[.int .i64 0, .int .i64 0, .int .i64 0] (n * 3) = (flat (List.replicate n Inf.zero)).toArray := by
  apply Array.ext
  · simp [size_madeCells, flat_length]
  · intro i h1 h2
    simp [size_madeCells] at h1
    simp only [madeCells, Array.getElem_map, Array.getElem_range, List.getElem_toArray]
    have hl : i / 3 < n := by omega
    have hz : (seg (List.replicate n Inf.zero) (i / 3)) = Inf.zero := by simp [seg, List.getD, hl]
    have e : (#[Value.int .i64 0, .int .i64 0, .int .i64 0][i % 3]! : Value) = .int .i64 0 := by
      have : i % 3 = 0 ∨ i % 3 = 1 ∨ i % 3 = 2 := by omega
      rcases this with h | h | h <;> rw [h] <;> rfl
    have key : (flat (List.replicate n Inf.zero))[i]? = some (.int .i64 0) := by
      have : i % 3 = 0 ∨ i % 3 = 1 ∨ i % 3 = 2 := by omega
      rcases this with h | h | h
      · have := flat_live (List.replicate n Inf.zero) (i / 3) (by simpa using hl)
        rw [hz, show i / 3 * 3 = i from by omega] at this; exact this
      · have := flat_state (List.replicate n Inf.zero) (i / 3) (by simpa using hl)
        rw [hz, show i / 3 * 3 + 1 = i from by omega] at this; exact this
      · have := flat_age (List.replicate n Inf.zero) (i / 3) (by simpa using hl)
        rw [hz, show i / 3 * 3 + 2 = i from by omega] at this; exact this
    rw [List.getElem?_eq_getElem (by simpa using h2)] at key
    simp only [List.size_toArray] at e ⊢
    exact e.trans (Option.some.inj key).symm

theorem Try.info38 : (Try.prog.info? 38).map (fun i => (i.zero, i.size, i.bytes)) = some (some (.agg #[.int .i64 0, .int .i64 0, .int .i64 0]), 3, 24) := by kernel_rfl

theorem run_new (w : World) (n : Nat) (h : n ≤ 512) : (Instr.makeSlice 59 (.int .i64 n) (.int .i64 n)).run Try.prog w =
    .ok (.slice (some ⟨w.heap.size, 0, none⟩) n n) (w.alloc (.cells (flat (List.replicate n Inf.zero)).toArray 38)) := by
  obtain ⟨i0, hi, hz0, hz1, hz2⟩ := info_parts Try.info38
  have := run_make (P := Try.prog) w 59 38 i0 _ Try.underlying59 hi hz0 .i64 .i64 (n : Int) (n : Int) (by omega) (by omega) (by rw [hz2]; omega) (by omega)
  rw [hz1] at this
  simp only [Value.cells, Int.toNat_natCast, madeCells_flat] at this
  exact this

set_option maxHeartbeats 400000 in
theorem new_ok (n size : Nat) (w : World) (h1 : 1 ≤ n) (h2 : n ≤ 512) (h3 : 1 ≤ size) (h4 : size ≤ 64) :
    Calls Try.prog 9 #[.int .i64 n, .int .i64 size] w fun e w' =>
      e = .returned (.tuple #[.pointer (some ⟨w.heap.size + 1, 0, none⟩), .int .i64 0]) ∧
      w' = (w.alloc (.cells (flat (List.replicate n Inf.zero)).toArray 38)).alloc (.cells #[.slice (some ⟨w.heap.size, 0, none⟩) n n, .int .i64 size, .int .i64 (-1)] 61) := by
  have hmk := fun w => run_new w n h2
  go_enter Try.func9, Try.ntmps9
  go_wp2
  go_ret2
  exact ⟨rfl, rfl⟩

/-- New with a number outside its range: no table. -/
theorem new_no (n size : Int) (w : World) (h : n < 1 ∨ 512 < n ∨ size < 1 ∨ 64 < size) :
    Calls Try.prog 9 #[.int .i64 n, .int .i64 size] w fun e w' =>
      e = .returned (.tuple #[.pointer none, .int .i64 22]) ∧ w' = w := by
  by_cases h1 : n < 1
  · go_enter Try.func9, Try.ntmps9
    go_wp2
    go_ret2
    exact ⟨rfl, rfl⟩
  by_cases h2 : 512 < n
  · go_enter Try.func9, Try.ntmps9
    go_wp2
    go_ret2
    exact ⟨rfl, rfl⟩
  by_cases h3 : size < 1
  · go_enter Try.func9, Try.ntmps9
    go_wp2
    go_ret2
    exact ⟨rfl, rfl⟩
  · have h4 : 64 < size := by omega
    go_enter Try.func9, Try.ntmps9
    go_wp2
    go_ret2
    exact ⟨rfl, rfl⟩

section
variable {w : World} {p c : Nat} {L : List Inf} {size hand : Int}

/-! ### Seize -/
def seizeL (L : List Inf) (hand : Int) (i : Nat) : List Inf :=
  let M := if 0 ≤ hand ∧ (seg L hand.toNat).state = 2 then L.set hand.toNat { seg L hand.toNat with state := 1 } else L
  M.set i { seg M i with state := 2 }

theorem seize_out (i : Int) (ht : Tab w p c L size hand) (h : i < 0 ∨ L.length ≤ i) :
    Calls Try.prog 22 #[.pointer (some ⟨p, 0, none⟩), .int .i64 i] w fun e w' => e = .returned (.int .i64 22) ∧ w' = w := by
  have hl := ht.l
  by_cases h1 : i < 0
  · go_enter Try.func22, Try.ntmps22
    go_wp2
    go_ret
    exact ⟨rfl, rfl⟩
  · have h2 : (L.length : Int) ≤ i := by omega
    go_enter Try.func22, Try.ntmps22
    go_wp2
    go_ret
    exact ⟨rfl, rfl⟩

theorem seize_first (i : Nat) (ht : Tab w p c L size hand) (h : i < L.length) (hh : hand < 0) :
    Calls Try.prog 22 #[.pointer (some ⟨p, 0, none⟩), .int .i64 i] w fun e w' => e = .returned (.int .i64 0) ∧
      Tab w' p c (seizeL L hand i) size i ∧ Only (Two p c) w w' := by
  have hl := ht.l
  have hd := ht.hd
  have hs := ht.state i h
  have f1 := ht.fp 2
  have f2 := ht.fc (i * 3 + 1)
  have hdd : decide (0 ≤ hand) = false := by simp; omega
  go_enter Try.func22, Try.ntmps22
  go_wp2
  go_quiet (fail)
  go_wp2
  go_ret
  refine ⟨rfl, ?_, ?_⟩
  · have e : seizeL L hand i = L.set i { seg L i with state := 2 } := by
      unfold seizeL; rw [if_neg (by omega)]
    rw [e]
    exact ((ht.drewN nq).setState i h 2).setHand i
  · exact (((Only.refl _ w).drewN nq).setCell (.inl (.inr rfl)) _).setCell (.inl (.inl rfl)) _

theorem seize_used (i j : Nat) (ht : Tab w p c L size j) (h : i < L.length) (hj : j < L.length) (hst : (seg L j).state ≠ 2) :
    Calls Try.prog 22 #[.pointer (some ⟨p, 0, none⟩), .int .i64 i] w fun e w' => e = .returned (.int .i64 0) ∧
      Tab w' p c (seizeL L j i) size i ∧ Only (Two p c) w w' := by
  have hl := ht.l
  have hd := ht.hd
  have hs := ht.state i h
  have hsj := ht.state j hj
  have f1 := ht.fp 2
  have f2 := ht.fc (i * 3 + 1)
  have hdd : decide ((0 : Int) ≤ j) = true := by simp
  have hss : ((seg L j).state == 2) = false := by simpa using hst
  go_enter Try.func22, Try.ntmps22
  go_wp2
  go_quiet (fail)
  go_wp2
  go_ret
  refine ⟨rfl, ?_, ?_⟩
  · have e : seizeL L j i = L.set i { seg L i with state := 2 } := by
      unfold seizeL; rw [if_neg (by simpa using hst)]
    rw [e]
    exact ((ht.drewN nq).setState i h 2).setHand i
  · exact (((Only.refl _ w).drewN nq).setCell (.inl (.inr rfl)) _).setCell (.inl (.inl rfl)) _

theorem seize_active (i j : Nat) (ht : Tab w p c L size j) (h : i < L.length) (hj : j < L.length) (hst : (seg L j).state = 2) :
    Calls Try.prog 22 #[.pointer (some ⟨p, 0, none⟩), .int .i64 i] w fun e w' => e = .returned (.int .i64 0) ∧
      Tab w' p c (seizeL L j i) size i ∧ Only (Two p c) w w' := by
  have hl := ht.l
  have hd := ht.hd
  have hs := ht.state i h
  have hsj := ht.state j hj
  have f1 := ht.fp 2
  have f2 := ht.fc (i * 3 + 1)
  have f3 := ht.fc (j * 3 + 1)
  have hdd : decide ((0 : Int) ≤ j) = true := by simp
  have hss : ((seg L j).state == 2) = true := by simpa using hst
  have e : seizeL L j i = (L.set j { seg L j with state := 1 }).set i { seg (L.set j { seg L j with state := 1 }) i with state := 2 } := by
    unfold seizeL; rw [if_pos ⟨by omega, by simpa using hst⟩]; rfl
  have E := Lib.hid e
  clear e hst
  go_enter Try.func22, Try.ntmps22
  go_wp2
  go_quiet (fail)
  go_wp2
  go_region
  all_goals
    have ht1 := (ht.drewN (nq + 1)).setState j hj 1
    have o1 : Only (Two p c) w ((w.drewN (nq + 1)).setCell ⟨c, j * 3 + 1, none⟩ (.int .i64 1)) := ((Only.refl _ w).drewN (nq + 1)).setCell (.inl (.inr rfl)) _
    generalize (w.drewN (nq + 1)).setCell ⟨c, j * 3 + 1, none⟩ (.int .i64 1) = w1 at ht1 o1 ⊢
    have hi1 : i < (L.set j { seg L j with state := 1 }).length := by simpa using h
    clear hl hd hs hsj f1 f2 f3
    have hl := ht1.l
    have hd := ht1.hd
    have hs := ht1.state i hi1
    have f1 := ht1.fp 2
    have f2 := ht1.fc (i * 3 + 1)
    rw [List.length_set] at hl
    go_wp2
    go_ret
    refine ⟨rfl, ?_, ?_⟩
    · rw [E.out]
      exact (ht1.setState i hi1 2).setHand i
    · exact (o1.setCell (.inl (.inr rfl)) _).setCell (.inl (.inl rfl)) _

end
end Go.Proofs.Ytfjkdkkljfgboaa
