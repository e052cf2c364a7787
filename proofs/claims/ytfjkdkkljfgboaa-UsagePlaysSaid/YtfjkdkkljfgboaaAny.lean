/-
  The contracts of package usage over every argument, by plain functions on the list of segments. Conditions: the table's facts.
-/
import Derived.Test.YtfjkdkkljfgboaaTake
import Derived.Test.YtfjkdkkljfgboaaGet
import Derived.Test.YtfjkdkkljfgboaaSweep
import Derived.Test.YtfjkdkkljfgboaaCnt
namespace Go.Proofs.Ytfjkdkkljfgboaa
open Go.RowKit
set_option linter.unusedVariables false

/-- Is there such a segment? -/
def inR (L : List Inf) (i : Int) : Bool := decide (0 ≤ i ∧ i < L.length)
theorem inR_yes {L : List Inf} {i : Int} (h : inR L i = true) : ∃ j : Nat, i = j ∧ j < L.length := by
  unfold inR at h
  have := of_decide_eq_true h
  exact ⟨i.toNat, by omega, by omega⟩
theorem inR_no {L : List Inf} {i : Int} (h : inR L i = false) : i < 0 ∨ (L.length : Int) ≤ i := by
  unfold inR at h
  have := of_decide_eq_false h
  omega
theorem inR_nat {L : List Inf} {j : Nat} (h : j < L.length) : inR L j = true := by
  unfold inR
  exact decide_eq_true ⟨by omega, by omega⟩

def upd (L : List Inf) (i : Int) (f : Inf → Inf) : List Inf := L.set i.toNat (f (seg L i.toNat))
def fitsB (s : Inf) (size n : Int) : Bool := decide (-s.live ≤ n ∧ n ≤ size - s.live)

def addC (L : List Inf) (size i n : Int) : Int := if inR L i && fitsB (seg L i.toNat) size n then 0 else 22
def addL (L : List Inf) (size i n : Int) : List Inf := if inR L i && fitsB (seg L i.toNat) size n then upd L i (fun s => { s with live := s.live + n }) else L
def touchC (L : List Inf) (i n : Int) : Int := if inR L i && decide (0 ≤ n) then 0 else 22
def touchL (L : List Inf) (i n : Int) : List Inf := if inR L i && decide (0 ≤ n) then upd L i (fun s => { s with age := max s.age n }) else L
def useC (L : List Inf) (i : Int) : Int := if inR L i then (if (seg L i.toNat).state = 0 then 0 else 103) else 22
def useL (L : List Inf) (i : Int) : List Inf := if inR L i && decide ((seg L i.toNat).state = 0) then upd L i (fun s => { s with state := 1 }) else L
def relC (L : List Inf) (i : Int) : Int := if inR L i then relCode (seg L i.toNat) else 22
def relL (L : List Inf) (i : Int) : List Inf := if inR L i then upd L i relS else L
def seizeC (L : List Inf) (i : Int) : Int := if inR L i then 0 else 22
def seizeLA (L : List Inf) (hand i : Int) : List Inf := if inR L i then seizeL L hand i.toNat else L
def seizeH (L : List Inf) (hand i : Int) : Int := if inR L i then i else hand
def takeM (L : List Inf) (hand : Int) : Option Nat := (List.range L.length).find? (fun k => (seg L (spotOf L.length hand k)).state == 0)
def takeS (L : List Inf) (hand : Int) : Int := match takeM L hand with | some m => (spotOf L.length hand m : Nat) | none => 0
def takeC (L : List Inf) (hand : Int) : Int := match takeM L hand with | some _ => 0 | none => 28
def takeL (L : List Inf) (hand : Int) : List Inf := match takeM L hand with | some m => seizeL L hand (spotOf L.length hand m) | none => L
def takeH (L : List Inf) (hand : Int) : Int := match takeM L hand with | some m => (spotOf L.length hand m : Nat) | none => hand

/-- What the table keeps. -/
structure Inv (L : List Inf) (size hand : Int) : Prop where
  len : L.length ≤ 512
  pos : 0 < L.length
  live : LiveOk L size
  size : size ≤ 64
  lo : -1 ≤ hand
  hi : hand < L.length

section
variable {w : World} {p c : Nat} {L : List Inf} {size hand : Int}

theorem Tab.onlyF {w' : World} (ht : Tab w p c L size hand) (o : Only (fun _ => False) w w') : Tab w' p c L size hand := ht.only o (fun h => h) (fun h => h)
theorem Only.two {w w' : World} (o : Only (fun _ => False) w w') (p c : Nat) : Only (Two p c) w w' := o.mono fun _ _ h => h.elim

theorem add_any (i n : Int) (ht : Tab w p c L size hand) (hI : Inv L size hand) :
    Calls Try.prog 13 #[.pointer (some ⟨p, 0, none⟩), .int .i64 i, .int .i64 n] w fun e w' =>
      e = .returned (.int .i64 (addC L size i n)) ∧ Tab w' p c (addL L size i n) size hand ∧ Only (Two p c) w w' := by
  unfold addC addL
  cases hR : inR L i with
  | false => exact (add_out i n ht (inR_no hR)).mono fun e w' ⟨he, o⟩ => ⟨he, ht.onlyF o, o.two p c⟩
  | true =>
    obtain ⟨j, rfl, hj⟩ := inR_yes hR
    cases hf : fitsB (seg L (j : Int).toNat) size n with
    | false =>
      have : ¬ fits L size j n := by unfold fits; unfold fitsB at hf; simpa using hf
      exact (add_no j n ht hj (hI.live j hj) hI.size this).mono fun e w' ⟨he, o⟩ => ⟨he, ht.onlyF o, o.two p c⟩
    | true =>
      have : fits L size j n := by unfold fits; unfold fitsB at hf; simpa using hf
      exact add_ok j n ht hj (hI.live j hj) hI.size this

theorem touch_any (i n : Int) (ht : Tab w p c L size hand) :
    Calls Try.prog 29 #[.pointer (some ⟨p, 0, none⟩), .int .i64 i, .int .i64 n] w fun e w' =>
      e = .returned (.int .i64 (touchC L i n)) ∧ Tab w' p c (touchL L i n) size hand ∧ Only (Two p c) w w' := by
  unfold touchC touchL
  cases hR : inR L i with
  | false => exact (touch_out i n ht (inR_no hR)).mono fun e w' ⟨he, o⟩ => ⟨he, ht.onlyF o, o.two p c⟩
  | true =>
    obtain ⟨j, rfl, hj⟩ := inR_yes hR
    by_cases hn : 0 ≤ n
    · rw [decide_eq_true hn]
      exact touch_ok j n ht hj hn
    · rw [decide_eq_false hn]
      exact (touch_no j n ht hj (by omega)).mono fun e w' ⟨he, o⟩ => ⟨he, ht.onlyF o, o.two p c⟩

theorem use_any (i : Int) (ht : Tab w p c L size hand) :
    Calls Try.prog 16 #[.pointer (some ⟨p, 0, none⟩), .int .i64 i] w fun e w' =>
      e = .returned (.int .i64 (useC L i)) ∧ Tab w' p c (useL L i) size hand ∧ Only (Two p c) w w' := by
  unfold useC useL
  cases hR : inR L i with
  | false => exact (use_out i ht (inR_no hR)).mono fun e w' ⟨he, hw⟩ => by subst hw; exact ⟨he, ht, Only.refl _ _⟩
  | true =>
    obtain ⟨j, rfl, hj⟩ := inR_yes hR
    by_cases h0 : (seg L (j : Int).toNat).state = 0
    · rw [decide_eq_true h0, if_pos h0]
      exact use_ok j ht hj h0
    · rw [decide_eq_false h0, if_neg h0]
      exact (use_no j ht hj h0).mono fun e w' ⟨he, hw⟩ => by subst hw; exact ⟨he, ht, Only.refl _ _⟩

theorem rel_any (i : Int) (ht : Tab w p c L size hand) :
    Calls Try.prog 11 #[.pointer (some ⟨p, 0, none⟩), .int .i64 i] w fun e w' =>
      e = .returned (.int .i64 (relC L i)) ∧ Tab w' p c (relL L i) size hand ∧ Only (Two p c) w w' := by
  unfold relC relL
  cases hR : inR L i with
  | false => exact (release_out i ht (inR_no hR)).mono fun e w' ⟨he, hw⟩ => by subst hw; exact ⟨he, ht, Only.refl _ _⟩
  | true =>
    obtain ⟨j, rfl, hj⟩ := inR_yes hR
    exact release_any j ht hj

theorem sei_any (i : Int) (ht : Tab w p c L size hand) (hI : Inv L size hand) :
    Calls Try.prog 22 #[.pointer (some ⟨p, 0, none⟩), .int .i64 i] w fun e w' =>
      e = .returned (.int .i64 (seizeC L i)) ∧ Tab w' p c (seizeLA L hand i) size (seizeH L hand i) ∧ Only (Two p c) w w' := by
  unfold seizeC seizeLA seizeH
  cases hR : inR L i with
  | false => exact (seize_out i ht (inR_no hR)).mono fun e w' ⟨he, hw⟩ => by subst hw; exact ⟨he, ht, Only.refl _ _⟩
  | true =>
    obtain ⟨j, rfl, hj⟩ := inR_yes hR
    exact seize_any j ht hj hI.hi

theorem take_any (ht : Tab w p c L size hand) (hI : Inv L size hand) :
    Calls Try.prog 10 #[.pointer (some ⟨p, 0, none⟩)] w fun e w' =>
      e = .returned (.tuple #[.int .i64 (takeS L hand), .int .i64 (takeC L hand)]) ∧ Tab w' p c (takeL L hand) size (takeH L hand) ∧ Only (Two p c) w w' := by
  unfold takeS takeC takeL takeH
  cases hm : takeM L hand with
  | none =>
    have hb : ∀ k, k < L.length → (seg L (spotOf L.length hand k)).state ≠ 0 := by
      intro k hk
      have := List.find?_eq_none.1 hm k (by simpa using hk)
      simpa using this
    exact (take_full ht hI.len hI.lo hI.hi hb).mono fun e w' ⟨he, o⟩ => ⟨he, ht.onlyF o, o.two p c⟩
  | some m =>
    obtain ⟨h1, xs, bs, heq, hno⟩ := List.find?_eq_some_iff_append.1 hm
    have hmem : m ∈ List.range L.length := by rw [heq]; simp
    have hlt : m < L.length := by simpa using hmem
    have hbusy : ∀ k, k < m → (seg L (spotOf L.length hand k)).state ≠ 0 := by
      intro k hk
      have has : xs = List.range m := by
        have hl : xs.length = m := by
          have h2 : (List.range L.length)[xs.length]? = some m := by rw [heq]; simp
          rw [List.getElem?_range (by have := congrArg List.length heq; simp at this; omega)] at h2
          simpa using h2
        have h3 : (List.range L.length).take xs.length = xs := by rw [heq]; simp
        rw [hl, List.take_range, Nat.min_eq_left (by omega)] at h3
        exact h3.symm
      have := hno k (by rw [has]; simpa using hk)
      simpa using this
    exact take_ok m ht hI.len hI.lo hI.hi hlt hbusy (by simpa using h1)
end
end Go.Proofs.Ytfjkdkkljfgboaa
