/-
  Plain facts: the heap's pops are the document's order; Best and Until answer as the document says. Conditions: candidates within their bounds.
-/
import Derived.Test.YtojhleijpcghoaaHl
namespace Go.Proofs.Ytojhleijpcghoaa
open Go.RowKit
set_option linter.unusedVariables false

theorem insAt_spec (x : Cd) (out : List Cd) : ∀ n, (∀ j, insAt x out n ≤ j → j < n → betC x (out.getD j Cd.zero) = true) ∧ (0 < insAt x out n → betC x (out.getD (insAt x out n - 1) Cd.zero) = false) := by
  intro n
  induction n with
  | zero => exact ⟨fun j _ h => absurd h (Nat.not_lt_zero _), fun h => absurd h (Nat.lt_irrefl _)⟩
  | succ n ih =>
    by_cases hb : betC x (out.getD n Cd.zero) = true
    · have e : insAt x out (n + 1) = insAt x out n := if_pos hb
      rw [e]
      refine ⟨fun j h1 h2 => ?_, ih.2⟩
      by_cases hj : j = n
      · subst hj; exact hb
      · exact ih.1 j h1 (by omega)
    · have e : insAt x out (n + 1) = n + 1 := if_neg hb
      rw [e]
      exact ⟨fun j h1 h2 => by omega, fun _ => by rw [Nat.add_sub_cancel]; exact Bool.eq_false_iff.2 hb⟩

def insPl (x : Pl) (out : List Pl) : List Pl := out.take (insAt x.c (out.map Pl.c) out.length) ++ x :: out.drop (insAt x.c (out.map Pl.c) out.length)
theorem insPl_map (x : Pl) (out : List Pl) : (insPl x out).map Pl.c = insF x.c (out.map Pl.c) := by
  unfold insPl insF
  rw [List.map_append, List.map_cons, List.map_take, List.map_drop, List.length_map]
theorem insPl_perm (x : Pl) (out : List Pl) : (insPl x out).Perm (x :: out) := by
  unfold insPl
  refine List.perm_middle.trans ?_
  rw [List.take_append_drop]
theorem map_at (out : List Pl) (j : Nat) (h : j < out.length) : (out.map Pl.c).getD j Cd.zero = out[j].c := by
  rw [List.getD_eq_getElem?_getD, List.getElem?_map, List.getElem?_eq_getElem h]
  rfl
theorem insPl_sorted {x : Pl} {out : List Pl} (hs : out.Pairwise leP) (hg : ∀ y ∈ out, Gd y.c) (hx : Gd x.c) (hat : ∀ y ∈ out, y.at_ < x.at_) : (insPl x out).Pairwise leP := by
  have hp := insAt_spec x.c (out.map Pl.c) out.length
  have hle := insAt_le x.c (out.map Pl.c) out.length
  unfold insPl
  generalize insAt x.c (out.map Pl.c) out.length = p at *
  have hs2 : (out.take p ++ out.drop p).Pairwise leP := by rw [List.take_append_drop]; exact hs
  rw [List.pairwise_append] at hs2
  rw [List.pairwise_append]
  refine ⟨hs2.1, List.Pairwise.cons ?_ hs2.2.1, ?_⟩
  · intro y hy
    obtain ⟨j, hj, rfl⟩ := List.getElem_of_mem hy
    rw [List.length_drop] at hj
    rw [List.getElem_drop]
    have h1 := hp.1 (p + j) (by omega) (by omega)
    rw [map_at out (p + j) (by omega)] at h1
    exact le_of_less ((less_iff _ _).2 (.inl h1))
  · intro a ha b hb
    rcases List.mem_cons.1 hb with rfl | hb
    · obtain ⟨j, hj, rfl⟩ := List.getElem_of_mem ha
      rw [List.length_take] at hj
      rw [List.getElem_take]
      have hq : p - 1 < out.length := by omega
      have h2 := hp.2 (by omega)
      rw [map_at out (p - 1) hq] at h2
      have h3 : leP (out[p - 1]) b := by
        rw [le_iff]
        exact ⟨h2, .inr (by have := hat _ (List.getElem_mem hq); omega)⟩
      by_cases e : j = p - 1
      · subst e; exact h3
      · refine le_trans (hg _ (List.getElem_mem _)) (hg _ (List.getElem_mem hq)) hx ?_ h3
        exact List.pairwise_iff_getElem.1 hs j (p - 1) (by omega) hq (by omega)
    · exact hs2.2.2 a ha b hb

def orderPl (L : List Pl) (o : List Pl) : List Pl := L.foldl (fun o x => insPl x o) o
theorem orderPl_map (l : List Cd) : ∀ (k : Nat) (o : List Pl), (orderPl (placeF k l) o).map Pl.c = l.foldl (fun o x => insF x o) (o.map Pl.c) := by
  induction l with
  | nil => intro k o; rfl
  | cons c l ih =>
    intro k o
    show (orderPl (placeF (k + 1) l) (insPl ⟨c, k⟩ o)).map Pl.c = _
    rw [ih, insPl_map]
    rfl
theorem orderPl_perm (L : List Pl) : ∀ (o : List Pl), (orderPl L o).Perm (L ++ o) := by
  induction L with
  | nil => intro o; exact List.Perm.refl _
  | cons x L ih =>
    intro o
    show (orderPl L (insPl x o)).Perm _
    refine (ih _).trans ?_
    exact ((insPl_perm x o).append_left L).trans List.perm_middle
theorem orderPl_sorted (l : List Cd) : ∀ (k : Nat) (o : List Pl), (∀ c ∈ l, Gd c) → (∀ y ∈ o, Gd y.c) → (∀ y ∈ o, y.at_ < k) → o.Pairwise leP → (orderPl (placeF k l) o).Pairwise leP := by
  induction l with
  | nil => intro k o _ _ _ h; exact h
  | cons c l ih =>
    intro k o hl hg hat h
    show (orderPl (placeF (k + 1) l) (insPl ⟨c, k⟩ o)).Pairwise leP
    have hm : ∀ y, y ∈ insPl ⟨c, k⟩ o ↔ y = ⟨c, k⟩ ∨ y ∈ o := fun y => by rw [(insPl_perm _ _).mem_iff, List.mem_cons]
    refine ih _ _ (fun d hd => hl d (List.mem_cons_of_mem _ hd)) (fun y hy => ?_) (fun y hy => ?_) (insPl_sorted h hg (hl c List.mem_cons_self) hat)
    · rcases (hm y).1 hy with rfl | hy
      · exact hl c List.mem_cons_self
      · exact hg y hy
    · rcases (hm y).1 hy with rfl | hy
      · show (k : Int) < ((k + 1 : Nat) : Int); omega
      · have := hat y hy; omega

theorem mem_placeF {x : Pl} (l : List Cd) : ∀ k, x ∈ placeF k l → ∃ i, i < l.length ∧ x.c = l.getD i Cd.zero ∧ x.at_ = ((k + i : Nat) : Int) := by
  induction l with
  | nil => intro k h; simp [placeF] at h
  | cons c l ih =>
    intro k h
    rcases List.mem_cons.1 h with rfl | h
    · exact ⟨0, by simp, rfl, rfl⟩
    · obtain ⟨i, hi, h1, h2⟩ := ih (k + 1) h
      exact ⟨i + 1, by simpa using hi, by simpa using h1, by rw [h2]; omega⟩

theorem pops_order {l : List Cd} (hc : chkC l = 0) : (popsF l.length (initF (l.length / 2) (placeF 0 l) l.length)).map Pl.c = orderF l := by
  have hG0 : GdQ (placeF 0 l) := gd_of_chk hc
  have hlen := placeF_length l 0
  have hH := init_all hG0
  have hG := gdq_init ((placeF 0 l).length / 2) (placeF 0 l) (placeF 0 l).length (Nat.le_refl _) hG0
  have hP := init_perm ((placeF 0 l).length / 2) (placeF 0 l) (placeF 0 l).length (Nat.le_refl _)
  rw [hlen] at hH hG hP
  have hlQ : (initF (l.length / 2) (placeF 0 l) l.length).length = l.length := by rw [len_initF, hlen]
  have s1 := pops_sorted l.length _ hlQ hG hH
  have p1 := (pops_perm l.length _ hlQ).trans hP
  have s2 := orderPl_sorted l 0 [] (gd_chk hc) (fun y hy => by simp at hy) (fun y hy => by simp at hy) List.Pairwise.nil
  have p2 := orderPl_perm (placeF 0 l) []
  rw [List.append_nil] at p2
  have e : popsF l.length (initF (l.length / 2) (placeF 0 l) l.length) = orderPl (placeF 0 l) [] := by
    refine List.Perm.eq_of_pairwise ?_ s1 s2 (p1.trans p2.symm)
    intro x y hx hy h1 h2
    obtain ⟨i, hi, i1, i2⟩ := mem_placeF l 0 (p1.mem_iff.1 hx)
    obtain ⟨j, hj, j1, j2⟩ := mem_placeF l 0 (p2.mem_iff.1 hy)
    have ha := le_antisymm_at h1 h2
    have hij : i = j := by rw [i2, j2] at ha; omega
    subst hij
    obtain ⟨xc, xa⟩ := x
    obtain ⟨yc, ya⟩ := y
    simp only at *
    rw [i1, j1, i2, j2]
  rw [e, orderPl_map]
  rfl

/-! ### What is told -/
def runL (W : Nat → Int → Bool) : List Cd → Nat → Int → List Cd
  | [], _, _ => []
  | x :: l, n, room => if W n room = true then x :: runL W l (n + 1) (room + (x.cap - x.live)) else []
theorem runF_eq (W : Nat → Int → Bool) : ∀ (m : Nat) (Q : List Pl) (out : List Cd) (room : Int), runF W m Q out room = out ++ runL W ((popsF m Q).map Pl.c) out.length room := by
  intro m
  induction m with
  | zero => intro Q out room; simp [runF, popsF, runL]
  | succ m ih =>
    intro Q out room
    unfold runF popsF
    rw [List.map_cons]
    unfold runL
    split
    · rw [ih]; simp
    · simp
theorem firstF_eq (W : Nat → Int → Bool) {l : List Cd} (hc : chkC l = 0) : firstF W l = runL W (orderF l) 0 0 := by
  unfold firstF
  rw [runF_eq, pops_order hc]
  rfl
theorem run_best (k : Int) (l : List Cd) : ∀ (n : Nat) (room : Int), runL (bestW k) l n room = l.take (k.toNat - n) := by
  induction l with
  | nil => intro n room; simp [runL]
  | cons x l ih =>
    intro n room
    unfold runL
    by_cases h : (n : Int) < k
    · rw [if_pos (show bestW k n room = true from decide_eq_true h), ih, show k.toNat - n = (k.toNat - (n + 1)) + 1 by omega, List.take_succ_cons]
    · rw [if_neg (show ¬ bestW k n room = true from by show ¬ decide ((n : Int) < k) = true; simpa using h), show k.toNat - n = 0 by omega, List.take_zero]
theorem run_until (k : Int) (l : List Cd) : ∀ (n : Nat) (room : Int), runL (untilW k) l n room = l.take (untilN l (k - room)) := by
  induction l with
  | nil => intro n room; simp [runL]
  | cons x l ih =>
    intro n room
    unfold runL untilN
    by_cases h : room < k
    · rw [if_pos (show untilW k n room = true from decide_eq_true h), if_pos (by omega), ih, List.take_succ_cons, show k - (room + (x.cap - x.live)) = k - room - (x.cap - x.live) by omega]
    · rw [if_neg (show ¬ untilW k n room = true from by show ¬ decide (room < k) = true; simpa using h), if_neg (by omega), List.take_zero]

theorem bestC_eq (l : List Cd) (k : Int) : bestC l k = rbestC l k := by
  unfold bestC rbestC
  split
  · rfl
  · rename_i h
    have hc : chkC l = 0 := by
      rcases chk_two l with h1 | h1
      · exact h1
      · exact absurd (.inl (by rw [h1]; decide)) h
    rw [firstF_eq _ hc, run_best]
    rfl
theorem untilC_eq (l : List Cd) (k : Int) : untilC l k = runtilC l k := by
  unfold untilC runtilC
  split
  · rfl
  · rename_i h
    have hc : chkC l = 0 := by
      rcases chk_two l with h1 | h1
      · exact h1
      · exact absurd (.inl (by rw [h1]; decide)) h
    rw [firstF_eq _ hc, run_until, Int.sub_zero]
end Go.Proofs.Ytojhleijpcghoaa
