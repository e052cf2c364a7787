/-
  The walks of pick's Best and Until: what they answer. Conditions: the slice's cells.
-/
import Derived.Test.YtojhleijpcghoaaFst
namespace Go.Proofs.Ytojhleijpcghoaa
open Go.RowKit
set_option linter.unusedVariables false

theorem wants_best (n : Nat) (room k : Int) (kb : Nat) (w : World) (h : w.cell? ⟨kb, 0, none⟩ = some (.int .i64 k)) :
    Calls Try.prog 21 #[.int .i64 n, .int .i64 room, .pointer (some ⟨kb, 0, none⟩)] w fun e w' => e = .returned (.bool (decide ((n : Int) < k))) ∧ w = w' := by
  go_enter Try.func21, Try.ntmps21
  go_wp2
  go_ret
  exact ⟨rfl, rfl⟩
theorem wants_until (n : Nat) (room k : Int) (kb : Nat) (w : World) (h : w.cell? ⟨kb, 0, none⟩ = some (.int .i64 k)) :
    Calls Try.prog 26 #[.int .i64 n, .int .i64 room, .pointer (some ⟨kb, 0, none⟩)] w fun e w' => e = .returned (.bool (decide (room < k))) ∧ w = w' := by
  go_enter Try.func26, Try.ntmps26
  go_wp2
  go_ret
  exact ⟨rfl, rfl⟩

def bestW (k : Int) (n : Nat) (_ : Int) : Bool := decide ((n : Int) < k)
def untilW (k : Int) (_ : Nat) (room : Int) : Bool := decide (room < k)
def bestC (l : List Cd) (k : Int) : List Cd × Int := if chkC l ≠ 0 ∨ k < 0 then ([], 22) else (firstF (bestW k) l, 0)
def untilC (l : List Cd) (k : Int) : List Cd × Int := if chkC l ≠ 0 ∨ k < 0 then ([], 22) else (firstF (untilW k) l, 0)

/-- What Best and Until answer. -/
def PickRes (w : World) (x : List Cd × Int) (e : Ending) (w' : World) : Prop := ∃ v, e = .returned (.tuple #[v, .int .i64 x.2]) ∧ CdOwn w' w.heap.size v x.1 ∧ Only (fun _ => False) w w'

theorem chk_two (l : List Cd) : chkC l = 0 ∨ chkC l = 22 := by
  unfold chkC
  split
  · exact .inr rfl
  · exact .inl rfl
theorem chk_len {l : List Cd} (h : chkC l = 0) : l.length ≤ 512 := by
  unfold chkC at h
  split at h
  · simp at h
  · rename_i h2; exact Nat.le_of_not_lt fun x => h2 (.inl x)

set_option maxHeartbeats 1000000 in
theorem best_any (a : Option Addr) (cap : Nat) (l : List Cd) (k : Int) (w : World) (hL : l.length ≤ maxLen) (h : CdsAt w a l) :
    Calls Try.prog 10 #[.slice a l.length cap, .int .i64 k] w (PickRes w (bestC l k)) := by
  have h1 := h.onlyF ((Only.refl (fun _ => False) w).alloc (.cells #[.int .i64 k] 3))
  have hI := check_any a cap l (w.alloc (.cells #[.int .i64 k] 3)) hL h1
  have hcell : (w.alloc (.cells #[.int .i64 k] 3)).cell? ⟨w.heap.size, 0, none⟩ = some (.int .i64 k) := one_cell (heap_alloc_new w _)
  have hsz : w.heap.size ≤ (w.alloc (.cells #[.int .i64 k] 3)).heap.size := by simp
  have hoW := (Only.refl (fun _ => False) w).alloc (.cells #[.int .i64 k] 3)
  rcases chk_two l with hc | hc
  · rw [hc] at hI
    by_cases hk : k < 0
    · have HR : Hid (bestC l k = ([], 22)) := if_pos (.inr hk)
      have HH := Lib.hid hc
      clear hc h h1
      rw [HR.out]
      go_enter Try.func10, Try.ntmps10
      go_wp2_with fail
      refine hI.mono ?_
      rintro e w2 ⟨rfl, o2⟩
      have hc2 : w2.cell? ⟨w.heap.size, 0, none⟩ = some (.int .i64 k) := (World.cell?_of_block (o2.block _ (by simp) (fun x => x))).trans hcell
      clear hI
      go_wp2_with fail
      go_ret2
      exact ⟨_, rfl, CdOwn.nil _ _, hoW.trans o2⟩
    · have HR : Hid (bestC l k = (firstF (bestW k) l, 0)) := if_neg (by rw [hc]; simp; omega)
      have HH := Lib.hid hc
      have H1 := Lib.hid h1
      clear hc h h1
      rw [HR.out]
      go_enter Try.func10, Try.ntmps10
      go_wp2_with fail
      refine hI.mono ?_
      rintro e w2 ⟨rfl, o2⟩
      have hc2 : w2.cell? ⟨w.heap.size, 0, none⟩ = some (.int .i64 k) := (World.cell?_of_block (o2.block _ (by simp) (fun x => x))).trans hcell
      clear hI
      go_wp2_with fail
      have hF : Calls Try.prog 20 #[.slice a l.length cap, .func (.func 21) #[] #[.pointer (some ⟨w.heap.size, 0, none⟩)]] w2 (FirstRes w2 (firstF (bestW k) l)) := by
        by_cases h0 : 0 < l.length
        · exact first_any a cap l 21 w.heap.size (bestW k) w2 (.inl rfl) (chk_len HH.out) (H1.out.onlyF o2) HH.out h0 (fun w' n room o => wants_best n room k _ w' ((World.cell?_of_block (o.block _ (World.block_lt_of_cell? _ _ hc2) (fun x => x))).trans hc2))
        · obtain rfl : l = [] := List.eq_nil_of_length_eq_zero (by omega)
          exact first_none a cap _ (bestW k) w2
      refine hF.mono ?_
      rintro e w3 ⟨v, rfl, hv, o3⟩
      clear hF
      go_wp2_with fail
      go_ret2
      exact ⟨v, rfl, hv.low (Nat.le_trans hsz o2.size), (hoW.trans o2).trans o3⟩
  · have HR : Hid (bestC l k = ([], 22)) := if_pos (.inl (by rw [hc]; decide))
    rw [hc] at hI
    have HH := Lib.hid hc
    clear hc h h1
    rw [HR.out]
    go_enter Try.func10, Try.ntmps10
    go_wp2_with fail
    refine hI.mono ?_
    rintro e w2 ⟨rfl, o2⟩
    clear hI
    go_wp2_with fail
    go_ret2
    exact ⟨_, rfl, CdOwn.nil _ _, hoW.trans o2⟩
set_option maxHeartbeats 1000000 in
theorem until_any (a : Option Addr) (cap : Nat) (l : List Cd) (k : Int) (w : World) (hL : l.length ≤ maxLen) (h : CdsAt w a l) :
    Calls Try.prog 18 #[.slice a l.length cap, .int .i64 k] w (PickRes w (untilC l k)) := by
  have h1 := h.onlyF ((Only.refl (fun _ => False) w).alloc (.cells #[.int .i64 k] 3))
  have hI := check_any a cap l (w.alloc (.cells #[.int .i64 k] 3)) hL h1
  have hcell : (w.alloc (.cells #[.int .i64 k] 3)).cell? ⟨w.heap.size, 0, none⟩ = some (.int .i64 k) := one_cell (heap_alloc_new w _)
  have hsz : w.heap.size ≤ (w.alloc (.cells #[.int .i64 k] 3)).heap.size := by simp
  have hoW := (Only.refl (fun _ => False) w).alloc (.cells #[.int .i64 k] 3)
  rcases chk_two l with hc | hc
  · rw [hc] at hI
    by_cases hk : k < 0
    · have HR : Hid (untilC l k = ([], 22)) := if_pos (.inr hk)
      have HH := Lib.hid hc
      clear hc h h1
      rw [HR.out]
      go_enter Try.func18, Try.ntmps18
      go_wp2_with fail
      refine hI.mono ?_
      rintro e w2 ⟨rfl, o2⟩
      have hc2 : w2.cell? ⟨w.heap.size, 0, none⟩ = some (.int .i64 k) := (World.cell?_of_block (o2.block _ (by simp) (fun x => x))).trans hcell
      clear hI
      go_wp2_with fail
      go_ret2
      exact ⟨_, rfl, CdOwn.nil _ _, hoW.trans o2⟩
    · have HR : Hid (untilC l k = (firstF (untilW k) l, 0)) := if_neg (by rw [hc]; simp; omega)
      have HH := Lib.hid hc
      have H1 := Lib.hid h1
      clear hc h h1
      rw [HR.out]
      go_enter Try.func18, Try.ntmps18
      go_wp2_with fail
      refine hI.mono ?_
      rintro e w2 ⟨rfl, o2⟩
      have hc2 : w2.cell? ⟨w.heap.size, 0, none⟩ = some (.int .i64 k) := (World.cell?_of_block (o2.block _ (by simp) (fun x => x))).trans hcell
      clear hI
      go_wp2_with fail
      have hF : Calls Try.prog 20 #[.slice a l.length cap, .func (.func 26) #[] #[.pointer (some ⟨w.heap.size, 0, none⟩)]] w2 (FirstRes w2 (firstF (untilW k) l)) := by
        by_cases h0 : 0 < l.length
        · exact first_any a cap l 26 w.heap.size (untilW k) w2 (.inr rfl) (chk_len HH.out) (H1.out.onlyF o2) HH.out h0 (fun w' n room o => wants_until n room k _ w' ((World.cell?_of_block (o.block _ (World.block_lt_of_cell? _ _ hc2) (fun x => x))).trans hc2))
        · obtain rfl : l = [] := List.eq_nil_of_length_eq_zero (by omega)
          exact first_none a cap _ (untilW k) w2
      refine hF.mono ?_
      rintro e w3 ⟨v, rfl, hv, o3⟩
      clear hF
      go_wp2_with fail
      go_ret2
      exact ⟨v, rfl, hv.low (Nat.le_trans hsz o2.size), (hoW.trans o2).trans o3⟩
  · have HR : Hid (untilC l k = ([], 22)) := if_pos (.inl (by rw [hc]; decide))
    rw [hc] at hI
    have HH := Lib.hid hc
    clear hc h h1
    rw [HR.out]
    go_enter Try.func18, Try.ntmps18
    go_wp2_with fail
    refine hI.mono ?_
    rintro e w2 ⟨rfl, o2⟩
    clear hI
    go_wp2_with fail
    go_ret2
    exact ⟨_, rfl, CdOwn.nil _ _, hoW.trans o2⟩
end Go.Proofs.Ytojhleijpcghoaa
