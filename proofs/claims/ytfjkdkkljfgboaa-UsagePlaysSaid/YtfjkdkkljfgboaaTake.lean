/-
  The walk of usage's Take: what it answers on a table in memory. Conditions: the table's facts.
-/
import Derived.Test.YtfjkdkkljfgboaaUse
namespace Go.Proofs.Ytfjkdkkljfgboaa
open Go.RowKit
section
variable {w : World} {p c : Nat} {L : List Inf} {size hand : Int}

/-- The place that Take looks at in round k. -/
def spotOf (n : Nat) (hand : Int) (k : Nat) : Nat := ((hand + 1).toNat + k) % n

theorem seize_any (i : Nat) (ht : Tab w p c L size hand) (h : i < L.length) (h1 : hand < L.length) :
    Calls Try.prog 22 #[.pointer (some ⟨p, 0, none⟩), .int .i64 i] w fun e w' => e = .returned (.int .i64 0) ∧
      Tab w' p c (seizeL L hand i) size i ∧ Only (Two p c) w w' := by
  by_cases h0 : hand < 0
  · exact seize_first i ht h h0
  · obtain ⟨j, rfl⟩ : ∃ j : Nat, hand = j := ⟨hand.toNat, by omega⟩
    by_cases h2 : (seg L j).state = 2
    · exact seize_active i j ht h (by omega) h2
    · exact seize_used i j ht h (by omega) h2

theorem take_loop_num (n k : Nat) (hand : Int) (h0 : -1 ≤ hand) : (hand + 1 + (k : Int)).tmod n = (spotOf n hand k : Nat) := by
  unfold spotOf
  obtain ⟨m, hm⟩ : ∃ m : Nat, hand + 1 = m := ⟨(hand + 1).toNat, by omega⟩
  rw [hm, Int.toNat_natCast, ← Int.natCast_add, ← Int.ofNat_tmod]

set_option maxHeartbeats 400000 in
/-- The first clean place behind the hand is at round m. -/
theorem take_ok (m : Nat) (ht : Tab w p c L size hand) (hL : L.length ≤ 512) (h0 : -1 ≤ hand) (h1 : hand < L.length) (hm : m < L.length)
    (hbusy : ∀ k, k < m → (seg L (spotOf L.length hand k)).state ≠ 0) (hclean : (seg L (spotOf L.length hand m)).state = 0) :
    Calls Try.prog 10 #[.pointer (some ⟨p, 0, none⟩)] w fun e w' => e = .returned (.tuple #[.int .i64 (spotOf L.length hand m : Nat), .int .i64 0]) ∧
      Tab w' p c (seizeL L hand (spotOf L.length hand m)) size (spotOf L.length hand m : Nat) ∧ Only (Two p c) w w' := by
  have hl := ht.l
  have hpos : (0 : Int) < L.length := by omega
  have hne : ((L.length : Int) == 0) = false := beq_eq_false_iff_ne.2 (by omega)
  have HB := Lib.hid hbusy
  have HC := Lib.hid hclean
  clear hbusy hclean
  go_enter Try.func10, Try.ntmps10
  go_wp2
  go_loopw [11] (fun i wr => ∃ k : Nat, k ≤ m ∧ i = .int .i64 k ∧ Only (fun _ => False) w wr) (fun i _ => L.length - (intOf i).toNat)
  case atStart => exact ⟨0, Nat.zero_le _, rfl, Only.refl _ _⟩
  case round =>
    obtain ⟨k, hk, rfl, o⟩ := hrel
    have htr := ht.only o (fun h => h) (fun h => h)
    clear hl
    have hl := htr.l
    have hd := htr.hd
    have hsp : spotOf L.length hand k < L.length := Nat.mod_lt _ (by omega)
    have hs := htr.state _ hsp
    have hw1 : IntKind.i64.wrap (hand + 1) = hand + 1 := IntWalk.i64_in _ (by omega)
    have hw2 : IntKind.i64.wrap (hand + 1 + (k : Int)) = hand + 1 + (k : Int) := IntWalk.i64_in _ (by omega)
    have hmod := take_loop_num L.length k hand h0
    by_cases hlt : k < m
    · have hst : ((seg L (spotOf L.length hand k)).state != 0) = true := by simpa using HB.out k hlt
      go_wp2
      go_quiet (fail)
      go_wp2
      go_roundw
      case rel => exact ⟨k + 1, by omega, by go_num, o.drewN _⟩
      case measure => simp [intOf]; omega
    · obtain rfl : k = m := by omega
      have hst : ((seg L (spotOf L.length hand k)).state != 0) = false := by simpa using HC.out
      go_wp2
      go_quiet (fail)
      go_wp2_with (go_at_call 22; refine (seize_any _ (htr.drewN nq) hsp h1).mono ?_; rintro e w' ⟨rfl, ht', o'⟩)
      go_ret2
      exact ⟨rfl, ht', (o.mono (fun _ _ h => h.elim)).trans (((Only.refl _ wr).drewN nq).trans o')⟩

set_option maxHeartbeats 400000 in
/-- No place is clean. -/
theorem take_full (ht : Tab w p c L size hand) (hL : L.length ≤ 512) (h0 : -1 ≤ hand) (h1 : hand < L.length)
    (hbusy : ∀ k, k < L.length → (seg L (spotOf L.length hand k)).state ≠ 0) :
    Calls Try.prog 10 #[.pointer (some ⟨p, 0, none⟩)] w fun e w' => e = .returned (.tuple #[.int .i64 0, .int .i64 28]) ∧
      Only (fun _ => False) w w' := by
  have hl := ht.l
  have HB := Lib.hid hbusy
  clear hbusy
  go_enter Try.func10, Try.ntmps10
  go_wp2
  go_loopw [11] (fun i wr => ∃ k : Nat, k ≤ L.length ∧ i = .int .i64 k ∧ Only (fun _ => False) w wr) (fun i _ => L.length - (intOf i).toNat)
  case atStart => exact ⟨0, Nat.zero_le _, rfl, Only.refl _ _⟩
  case round =>
    obtain ⟨k, hk, rfl, o⟩ := hrel
    have htr := ht.only o (fun h => h) (fun h => h)
    clear hl
    have hl := htr.l
    have hd := htr.hd
    by_cases hlt : k < L.length
    · have hsp : spotOf L.length hand k < L.length := Nat.mod_lt _ (by omega)
      have hpos : (0 : Int) < L.length := by omega
      have hne : ((L.length : Int) == 0) = false := beq_eq_false_iff_ne.2 (by omega)
      have hs := htr.state _ hsp
      have hw1 : IntKind.i64.wrap (hand + 1) = hand + 1 := IntWalk.i64_in _ (by omega)
      have hw2 : IntKind.i64.wrap (hand + 1 + (k : Int)) = hand + 1 + (k : Int) := IntWalk.i64_in _ (by omega)
      have hmod := take_loop_num L.length k hand h0
      have hst : ((seg L (spotOf L.length hand k)).state != 0) = true := by simpa using HB.out k hlt
      go_wp2
      go_quiet (fail)
      go_wp2
      go_roundw
      case rel => exact ⟨k + 1, by omega, by go_num, o.drewN _⟩
      case measure => simp [intOf]; omega
    · go_wp2
      go_ret2
      exact ⟨rfl, o⟩
end
end Go.Proofs.Ytfjkdkkljfgboaa
