/-
  Plain facts: the heap's down, Init and Pop keep the elements and the heap's order. Conditions: candidates within their bounds.
-/
import Derived.Test.YtojhleijpcghoaaLaw
namespace Go.Proofs.Ytojhleijpcghoaa
open Go.RowKit
set_option linter.unusedVariables false

theorem elt_get {Q : List Pl} {k : Nat} (h : k < Q.length) : elt Q k = Q[k] := by
  unfold elt
  rw [List.getD_eq_getElem?_getD, List.getElem?_eq_getElem h]
  rfl
theorem swapQ_perm (Q : List Pl) (i j : Nat) (hi : i < Q.length) (hj : j < Q.length) : (swapQ Q i j).Perm Q := by
  have h := Array.swap_perm (xs := Q.toArray) (i := i) (j := j) (by simpa using hi) (by simpa using hj)
  have e : (Q.toArray.swap i j (by simpa using hi) (by simpa using hj)).toList = swapQ Q i j := by
    unfold swapQ
    rw [elt_get hi, elt_get hj]
    simp [Array.swap]
  have h2 := Array.perm_iff_toList_perm.1 h
  rw [e] at h2
  exact h2

/-- Good all. -/
def GdQ (Q : List Pl) : Prop := ∀ k, k < Q.length → Gd (elt Q k).c
theorem down_perm : ∀ (f : Nat) (Q : List Pl) (i n : Nat), n ≤ Q.length → (downF f Q i n).Perm Q := by
  intro f
  induction f with
  | zero => intro Q i n _; exact List.Perm.refl _
  | succ f ih =>
    intro Q i n hn
    unfold downF
    split
    · exact List.Perm.refl _
    · simp only
      split
      · rename_i hi hj
        split
        · exact (ih _ _ _ (by rw [len_swapQ]; exact hn)).trans (swapQ_perm _ _ _ (by omega) (by omega))
        · exact List.Perm.refl _
      · rename_i hi hj
        split
        · exact (ih _ _ _ (by rw [len_swapQ]; exact hn)).trans (swapQ_perm _ _ _ (by omega) (by omega))
        · exact List.Perm.refl _
theorem init_perm : ∀ (k : Nat) (Q : List Pl) (n : Nat), n ≤ Q.length → (initF k Q n).Perm Q := by
  intro k
  induction k with
  | zero => intro Q n _; exact List.Perm.refl _
  | succ k ih =>
    intro Q n hn
    unfold initF
    exact (ih _ _ (by rw [len_downF]; exact hn)).trans (down_perm _ _ _ _ hn)
/-- Behind its end down turns nothing. -/
theorem down_far : ∀ (f : Nat) (Q : List Pl) (i n k : Nat), n ≤ Q.length → n ≤ k → elt (downF f Q i n) k = elt Q k := by
  intro f
  induction f with
  | zero => intro Q i n k _ _; rfl
  | succ f ih =>
    intro Q i n k hn hk
    unfold downF
    split
    · rfl
    · rename_i hi
      simp only
      split
      · rename_i hj
        split
        · rw [ih _ _ _ _ (by rw [len_swapQ]; exact hn) hk, elt_swap _ _ _ _ (by omega) (by omega), if_neg (by omega), if_neg (by omega)]
        · rfl
      · rename_i hj
        split
        · rw [ih _ _ _ _ (by rw [len_swapQ]; exact hn) hk, elt_swap _ _ _ _ (by omega) (by omega), if_neg (by omega), if_neg (by omega)]
        · rfl

/-! ### The heap's order -/
/-- From place r on, below n: nobody stands ahead of its parent. -/
def HeapF (Q : List Pl) (r n : Nat) : Prop := ∀ k, 0 < k → k < n → r ≤ (k - 1) / 2 → leP (elt Q ((k - 1) / 2)) (elt Q k)
/-- The like, but at i; and i's children are not ahead of i's parent. -/
def HoleF (Q : List Pl) (r i n : Nat) : Prop :=
  (∀ k, 0 < k → k < n → r ≤ (k - 1) / 2 → (k - 1) / 2 ≠ i → leP (elt Q ((k - 1) / 2)) (elt Q k)) ∧
  (∀ k, 0 < k → k < n → (k - 1) / 2 = i → 0 < i → r ≤ (i - 1) / 2 → leP (elt Q ((i - 1) / 2)) (elt Q k))

theorem heap_of_hole {Q : List Pl} {r i n : Nat} (h : HoleF Q r i n) (hc : ∀ k, 0 < k → k < n → (k - 1) / 2 = i → leP (elt Q i) (elt Q k)) : HeapF Q r n := by
  intro k h0 hk hr
  by_cases e : (k - 1) / 2 = i
  · rw [e]; exact hc k h0 hk e
  · exact h.1 k h0 hk hr e

theorem gdq_swap {Q : List Pl} {i j : Nat} (h : GdQ Q) (hi : i < Q.length) (hj : j < Q.length) : GdQ (swapQ Q i j) := gd_swap h hi hj
theorem gdq_down {Q : List Pl} {f i n : Nat} (h : GdQ Q) (hn : n ≤ Q.length) : GdQ (downF f Q i n) := gd_down f Q i n hn h

/-- One step of the hole: to the child j that no other child is ahead of. -/
theorem hole_step {Q : List Pl} {r i j n : Nat} (hG : GdQ Q) (hn : n ≤ Q.length) (h : HoleF Q r i n) (hri : r ≤ i) (hj : j < n) (hj1 : j = 2 * i + 1 ∨ j = 2 * i + 2)
    (hmin : ∀ k, 0 < k → k < n → (k - 1) / 2 = i → leP (elt Q j) (elt Q k)) (hl : lessP (elt Q j) (elt Q i) = true) : HoleF (swapQ Q i j) r j n := by
  have hi : i < Q.length := by omega
  have hjl : j < Q.length := by omega
  have hpj : (j - 1) / 2 = i := by omega
  have es := fun k => elt_swap Q i j k hi hjl
  constructor
  · intro k h0 hk hr hne
    rw [es, es]
    by_cases e1 : k = j
    · subst e1
      rw [hpj, if_neg (by omega), if_pos rfl, if_pos rfl]
      exact le_of_less hl
    · by_cases e2 : k = i
      · subst e2
        rw [if_neg (show ¬ j = (k - 1) / 2 by omega), if_neg (show ¬ k = (k - 1) / 2 by omega), if_neg (show ¬ j = k by omega), if_pos rfl]
        exact h.2 j (by omega) hj hpj h0 hr
      · by_cases e3 : (k - 1) / 2 = i
        · rw [e3, if_neg (show ¬ j = i by omega), if_pos rfl, if_neg (show ¬ j = k by omega), if_neg (show ¬ i = k by omega)]
          exact hmin k h0 hk e3
        · rw [if_neg (show ¬ j = (k - 1) / 2 by omega), if_neg (show ¬ i = (k - 1) / 2 by omega), if_neg (show ¬ j = k by omega), if_neg (show ¬ i = k by omega)]
          exact h.1 k h0 hk hr e3
  · intro k h0 hk hp hj0 hr
    rw [es, es, hpj, if_neg (show ¬ j = i by omega), if_pos rfl, if_neg (show ¬ j = k by omega), if_neg (show ¬ i = k by omega)]
    have := h.1 k h0 hk (by omega) (by omega)
    rw [hp] at this
    exact this

theorem down_heap : ∀ (f : Nat) (Q : List Pl) (r i n : Nat), n ≤ Q.length → GdQ Q → r ≤ i → n ≤ f + i → HoleF Q r i n → HeapF (downF f Q i n) r n := by
  intro f
  induction f with
  | zero =>
    intro Q r i n hn hG hri hf h
    exact heap_of_hole h (fun k h0 hk hp => by omega)
  | succ f ih =>
    intro Q r i n hn hG hri hf h
    unfold downF
    split
    · rename_i h1
      exact heap_of_hole h (fun k h0 hk hp => by omega)
    · rename_i h1
      simp only
      split
      · rename_i hj
        have hmin : ∀ k, 0 < k → k < n → (k - 1) / 2 = i → leP (elt Q (2 * i + 2)) (elt Q k) := by
          intro k h0 hk hp
          rcases (show k = 2 * i + 1 ∨ k = 2 * i + 2 by omega) with rfl | rfl
          · exact le_of_less hj.2
          · exact le_refl _
        split
        · rename_i hl
          exact ih _ r _ _ (by rw [len_swapQ]; exact hn) (gdq_swap hG (by omega) (by omega)) (by omega) (by omega) (hole_step hG hn h hri hj.1 (.inr rfl) hmin hl)
        · rename_i hl
          refine heap_of_hole h (fun k h0 hk hp => le_trans (y := elt Q (2 * i + 2)) (hG _ (by omega)) (hG _ (by omega)) (hG _ (by omega)) ?_ (hmin k h0 hk hp))
          exact Bool.eq_false_iff.2 hl
      · rename_i hj
        have hmin : ∀ k, 0 < k → k < n → (k - 1) / 2 = i → leP (elt Q (2 * i + 1)) (elt Q k) := by
          intro k h0 hk hp
          rcases (show k = 2 * i + 1 ∨ k = 2 * i + 2 by omega) with rfl | rfl
          · exact le_refl _
          · exact Bool.eq_false_iff.2 fun x => hj ⟨hk, x⟩
        split
        · rename_i hl
          exact ih _ r _ _ (by rw [len_swapQ]; exact hn) (gdq_swap hG (by omega) (by omega)) (by omega) (by omega) (hole_step hG hn h hri (by omega) (.inl rfl) hmin hl)
        · rename_i hl
          refine heap_of_hole h (fun k h0 hk hp => le_trans (y := elt Q (2 * i + 1)) (hG _ (by omega)) (hG _ (by omega)) (hG _ (by omega)) ?_ (hmin k h0 hk hp))
          exact Bool.eq_false_iff.2 hl

theorem init_heap : ∀ (k : Nat) (Q : List Pl) (n : Nat), n ≤ Q.length → GdQ Q → HeapF Q k n → HeapF (initF k Q n) 0 n := by
  intro k
  induction k with
  | zero => intro Q n _ _ h; exact h
  | succ k ih =>
    intro Q n hn hG h
    unfold initF
    refine ih _ _ (by rw [len_downF]; exact hn) (gdq_down hG hn) ?_
    refine down_heap n Q k k n hn hG (Nat.le_refl _) (by omega) ⟨fun j h0 hj hr hne => h j h0 hj (by omega), fun j h0 hj hp hk0 hr => ?_⟩
    omega
theorem init_all {Q : List Pl} (hG : GdQ Q) : HeapF (initF (Q.length / 2) Q Q.length) 0 Q.length :=
  init_heap _ Q _ (Nat.le_refl _) hG (fun k h0 hk hr => by omega)
theorem gdq_init : ∀ (k : Nat) (Q : List Pl) (n : Nat), n ≤ Q.length → GdQ Q → GdQ (initF k Q n) := by
  intro k
  induction k with
  | zero => intro Q n _ h; exact h
  | succ k ih => intro Q n hn h; unfold initF; exact ih _ _ (by rw [len_downF]; exact hn) (gdq_down h hn)

/-- The first of a heap is ahead of all. -/
theorem heap_root {Q : List Pl} {n : Nat} (hn : n ≤ Q.length) (hG : GdQ Q) (h : HeapF Q 0 n) : ∀ k, k < n → leP (elt Q 0) (elt Q k) := by
  intro k
  induction k using Nat.strongRecOn with
  | _ k ih =>
    intro hk
    by_cases h0 : k = 0
    · subst h0; exact le_refl _
    · exact le_trans (hG _ (by omega)) (hG _ (by omega)) (hG _ (by omega)) (ih ((k - 1) / 2) (by omega) (by omega)) (h k (by omega) hk (Nat.zero_le _))

/-! ### Pops -/
theorem len_popF {Q : List Pl} {m : Nat} : (popF Q m).length = Q.length := by unfold popF; rw [len_downF, len_swapQ]
theorem popF_last {Q : List Pl} {m : Nat} (hm : Q.length = m + 1) : elt (popF Q m) m = elt Q 0 := by
  unfold popF
  rw [down_far _ _ _ _ _ (by rw [len_swapQ]; omega) (Nat.le_refl _), elt_swap _ _ _ _ (by omega) (by omega), if_pos rfl]
theorem popF_perm {Q : List Pl} {m : Nat} (hm : Q.length = m + 1) : (popF Q m).Perm Q :=
  (down_perm _ _ _ _ (by rw [len_swapQ]; omega)).trans (swapQ_perm _ _ _ (by omega) (by omega))
theorem popF_split {Q : List Pl} {m : Nat} (hm : Q.length = m + 1) : (elt Q 0 :: (popF Q m).take m).Perm Q := by
  have hl : (popF Q m).length = m + 1 := by rw [len_popF]; exact hm
  have e : (popF Q m).take m ++ [elt (popF Q m) m] = popF Q m := by
    rw [elt_get (by omega)]
    have := List.take_succ_eq_append_getElem (l := popF Q m) (i := m) (by omega)
    rw [← this, List.take_of_length_le (by omega)]
  have p : ((popF Q m).take m ++ [elt (popF Q m) m]).Perm Q := by rw [e]; exact popF_perm hm
  rw [popF_last hm] at p
  exact (List.perm_append_singleton _ _).symm.trans p
theorem popF_heap {Q : List Pl} {m : Nat} (hm : Q.length = m + 1) (hG : GdQ Q) (h : HeapF Q 0 (m + 1)) : HeapF ((popF Q m).take m) 0 m := by
  have hd : HeapF (popF Q m) 0 m := by
    refine down_heap m (swapQ Q 0 m) 0 0 m (by rw [len_swapQ]; omega) (gdq_swap hG (by omega) (by omega)) (Nat.le_refl _) (by omega) ⟨fun k h0 hk hr hne => ?_, fun k h0 hk hp h00 => by omega⟩
    rw [elt_swap _ _ _ _ (by omega) (by omega), elt_swap _ _ _ _ (by omega) (by omega), if_neg (by omega), if_neg (by omega), if_neg (by omega), if_neg (by omega)]
    exact h k h0 (by omega) hr
  intro k h0 hk hr
  rw [elt_take _ _ _ (by omega), elt_take _ _ _ (by omega)]
  exact hd k h0 hk hr
theorem popF_gdq {Q : List Pl} {m : Nat} (hm : Q.length = m + 1) (hG : GdQ Q) : GdQ ((popF Q m).take m) := by
  intro k hk
  rw [List.length_take] at hk
  rw [elt_take _ _ _ (by omega)]
  exact gdq_down (gdq_swap hG (by omega) (by omega)) (by rw [len_swapQ]; omega) k (by rw [len_popF] at hk; rw [len_downF, len_swapQ]; omega)

/-- What m pops give. -/
def popsF : Nat → List Pl → List Pl
  | 0, _ => []
  | m + 1, Q => elt (popF Q m) m :: popsF m ((popF Q m).take m)
theorem pops_perm : ∀ (m : Nat) (Q : List Pl), Q.length = m → (popsF m Q).Perm Q := by
  intro m
  induction m with
  | zero => intro Q h; rw [List.eq_nil_of_length_eq_zero h]; exact List.Perm.refl _
  | succ m ih =>
    intro Q h
    unfold popsF
    rw [popF_last h]
    exact ((ih _ (by rw [List.length_take, len_popF]; omega)).cons _).trans (popF_split h)
theorem mem_elt {Q : List Pl} {x : Pl} (h : x ∈ Q) : ∃ k, k < Q.length ∧ elt Q k = x := by
  obtain ⟨k, hk, e⟩ := List.getElem_of_mem h
  exact ⟨k, hk, by rw [elt_get hk]; exact e⟩
theorem pops_sorted : ∀ (m : Nat) (Q : List Pl), Q.length = m → GdQ Q → HeapF Q 0 m → (popsF m Q).Pairwise leP := by
  intro m
  induction m with
  | zero => intro Q _ _ _; exact List.Pairwise.nil
  | succ m ih =>
    intro Q h hG hH
    unfold popsF
    have hl : ((popF Q m).take m).length = m := by rw [List.length_take, len_popF]; omega
    refine List.Pairwise.cons ?_ (ih _ hl (popF_gdq h hG) (popF_heap h hG hH))
    intro x hx
    rw [popF_last h]
    have h1 : x ∈ (popF Q m).take m := (pops_perm m _ hl).mem_iff.1 hx
    have h2 : x ∈ Q := (popF_split h).mem_iff.1 (List.mem_cons_of_mem _ h1)
    obtain ⟨k, hk, rfl⟩ := mem_elt h2
    exact heap_root (by omega) hG hH k (by omega)
end Go.Proofs.Ytojhleijpcghoaa
