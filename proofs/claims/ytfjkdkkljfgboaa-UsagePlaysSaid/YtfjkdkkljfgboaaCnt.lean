/-
  The walks of usage's Count and Total: what they answer on a table in memory. Conditions: the table's facts.
-/
import Derived.Test.YtfjkdkkljfgboaaTab
namespace Go.Proofs.Ytfjkdkkljfgboaa
open Go.RowKit
section
variable {w : World} {p c : Nat} {L : List Inf} {size hand : Int}

def countL (L : List Inf) (st : Int) : Nat := (L.filter (fun s => s.state == st)).length
theorem countL_take (L : List Inf) (st : Int) (k : Nat) (h : k < L.length) : countL (L.take (k + 1)) st = countL (L.take k) st + if (seg L k).state = st then 1 else 0 := by
  unfold countL
  rw [List.take_succ_eq_append_getElem h, List.filter_append, List.length_append]
  have : seg L k = L[k] := by simp [seg, h]
  rw [this]
  by_cases e : L[k].state = st <;> simp [e]
theorem countL_le (L : List Inf) (st : Int) (k : Nat) : countL (L.take k) st ≤ L.length := by
  unfold countL
  exact Nat.le_trans (List.length_filter_le _ _) (by simp; omega)

set_option maxHeartbeats 400000 in
theorem count_any (st : Int) (ht : Tab w p c L size hand) (hL : L.length ≤ 512) :
    Calls Try.prog 12 #[.pointer (some ⟨p, 0, none⟩), .int .i64 st] w fun e w' => e = .returned (.int .i64 (countL L st)) ∧ Only (fun _ => False) w w' := by
  have hl := ht.l
  go_enter Try.func12, Try.ntmps12
  go_wp2
  go_loopw [13, 5] (fun i n wr => ∃ k : Nat, k ≤ L.length ∧ i = .int .i64 k ∧ n = .int .i64 (countL (L.take k) st : Nat) ∧ Only (fun _ => False) w wr) (fun i _ _ => L.length - (intOf i).toNat)
  case atStart => exact ⟨0, Nat.zero_le _, rfl, rfl, Only.refl _ _⟩
  case round =>
    obtain ⟨k, hk, rfl, rfl, o⟩ := hrel
    have htr := ht.only o (fun h => h) (fun h => h)
    have hb := countL_le L st k
    by_cases hlt : k < L.length
    · have h0 := htr.live k hlt
      have h1 := htr.state k hlt
      have h2 := htr.age k hlt
      have hc := countL_take L st k hlt
      by_cases he : (seg L k).state = st
      · have hee : ((seg L k).state == st) = true := by simpa using he
        rw [if_pos he] at hc
        have HC := Lib.hid hc
        clear hc he
        go_wp2
        go_roundw
        case rel => exact ⟨k + 1, by omega, by go_num, by rw [HC.out]; go_num, o.alloc _⟩
        case measure => simp [intOf]; omega
      · have hee : ((seg L k).state == st) = false := by simpa using he
        rw [if_neg he] at hc
        have HC := Lib.hid hc
        clear hc he
        go_wp2
        go_roundw
        case rel => exact ⟨k + 1, by omega, by go_num, by rw [HC.out]; go_num, o.alloc _⟩
        case measure => simp [intOf]; omega
    · go_wp2
      go_ret
      have e : L.take k = L := List.take_of_length_le (by omega)
      rw [e]
      exact ⟨rfl, o⟩

/-! ### Total -/
def totalL : List Inf → Int
  | [] => 0
  | s :: L => s.live + totalL L
theorem totalL_append (A B : List Inf) : totalL (A ++ B) = totalL A + totalL B := by
  induction A with
  | nil => simp [totalL]
  | cons s A ih => simp [totalL, ih]; omega
theorem totalL_take (L : List Inf) (k : Nat) (h : k < L.length) : totalL (L.take (k + 1)) = totalL (L.take k) + (seg L k).live := by
  rw [List.take_succ_eq_append_getElem h, totalL_append]
  have : seg L k = L[k] := by simp [seg, h]
  rw [this]
  simp [totalL]
def LiveOk (L : List Inf) (size : Int) : Prop := ∀ i, i < L.length → 0 ≤ (seg L i).live ∧ (seg L i).live ≤ size
theorem totalL_bd (L : List Inf) (size : Int) (h : LiveOk L size) (hs : size ≤ 64) (k : Nat) (hk : k ≤ L.length) : 0 ≤ totalL (L.take k) ∧ totalL (L.take k) ≤ 64 * k := by
  induction k with
  | zero => simp [totalL]
  | succ k ih =>
    have := ih (by omega)
    have h2 := h k (by omega)
    rw [totalL_take L k (by omega)]
    omega

set_option maxHeartbeats 400000 in
theorem total_any (ht : Tab w p c L size hand) (hL : L.length ≤ 512) (hv : LiveOk L size) (hs : size ≤ 64) :
    Calls Try.prog 15 #[.pointer (some ⟨p, 0, none⟩)] w fun e w' => e = .returned (.int .i64 (totalL L)) ∧ Only (fun _ => False) w w' := by
  have hl := ht.l
  go_enter Try.func15, Try.ntmps15
  go_wp2
  go_loopw [11, 3] (fun i n wr => ∃ k : Nat, k ≤ L.length ∧ i = .int .i64 k ∧ n = .int .i64 (totalL (L.take k)) ∧ Only (fun _ => False) w wr) (fun i _ _ => L.length - (intOf i).toNat)
  case atStart => exact ⟨0, Nat.zero_le _, rfl, rfl, Only.refl _ _⟩
  case round =>
    obtain ⟨k, hk, rfl, rfl, o⟩ := hrel
    have htr := ht.only o (fun h => h) (fun h => h)
    obtain ⟨hb1, hb2⟩ := totalL_bd L size hv hs k hk
    by_cases hlt : k < L.length
    · have h0 := htr.live k hlt
      have h1 := htr.state k hlt
      have h2 := htr.age k hlt
      obtain ⟨hv1, hv2⟩ := hv k hlt
      have HC := Lib.hid (totalL_take L k hlt)
      go_wp2
      go_roundw
      case rel => exact ⟨k + 1, by omega, by go_num, by rw [HC.out], o.alloc _⟩
      case measure => simp [intOf]; omega
    · go_wp2
      go_ret
      have e : L.take k = L := List.take_of_length_le (by omega)
      rw [e]
      exact ⟨rfl, o⟩
end
end Go.Proofs.Ytfjkdkkljfgboaa
