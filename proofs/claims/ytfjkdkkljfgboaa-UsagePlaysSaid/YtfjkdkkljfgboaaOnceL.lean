/-
  The plain laws under UsageOnce: what the table's list of segments and the law's own array say of each other. No program in sight but the memory of that array.
-/
import Derived.Test.YtfjkdkkljfgboaaAny
namespace Go.Proofs.Ytfjkdkkljfgboaa
open Go.RowKit
set_option linter.unusedVariables false

theorem seg_set (L : List Inf) (i k : Nat) (s : Inf) (h : i < L.length) : seg (L.set i s) k = if i = k then s else seg L k := by
  unfold seg
  by_cases e : i = k
  · subst e; simp [h]
  · rw [if_neg e, List.getD_eq_getElem?_getD, List.getD_eq_getElem?_getD, List.getElem?_set_ne e]
theorem seg_map (L : List Inf) (k : Nat) (h : k < L.length) : seg (L.map relS) k = relS (seg L k) := by simp [seg, h]

/-- At most one is active, the hand. -/
structure Act1 (L : List Inf) (hand : Int) : Prop where
  act : ∀ i, i < L.length → ((seg L i).state = 2 ↔ hand = i)

theorem countL_zero (L : List Inf) (st : Int) (h : ∀ i, i < L.length → (seg L i).state ≠ st) : countL L st = 0 := by
  unfold countL
  rw [List.length_eq_zero_iff, List.filter_eq_nil_iff]
  intro a ha
  obtain ⟨i, hi, rfl⟩ := List.getElem_of_mem ha
  have := h i hi
  simpa [seg, hi] using this
theorem countL_one (st : Int) : ∀ (L : List Inf) (k : Nat), k < L.length → (∀ i, i < L.length → ((seg L i).state = st ↔ i = k)) → countL L st = 1 := by
  intro L
  induction L with
  | nil => intro k h; simp at h
  | cons s L ih =>
    intro k hk h
    cases k with
    | zero =>
      have h0 : s.state = st := by simpa [seg] using (h 0 (by simp)).2 rfl
      have h1 : countL L st = 0 := countL_zero L st fun i hi e => by
        have := (h (i + 1) (by simpa using hi)).1 (by simpa [seg] using e)
        omega
      unfold countL at h1 ⊢
      rw [List.filter_cons_of_pos (by simpa using h0), List.length_cons, h1]
    | succ k =>
      have h0 : ¬ s.state = st := fun e => by
        have := (h 0 (by simp)).1 (by simpa [seg] using e)
        omega
      have h1 := ih k (by simpa using hk) fun i hi => by
        have := h (i + 1) (by simpa using hi)
        rw [show seg (s :: L) (i + 1) = seg L i from by simp [seg]] at this
        rw [this]; omega
      unfold countL at h1 ⊢
      rw [List.filter_cons_of_neg (by simpa using h0), h1]
def actN (hand : Int) : Int := if 0 ≤ hand then 1 else 0
theorem actN_test (hand : Int) : (actN hand == 1) = decide (0 ≤ hand) := by
  unfold actN
  by_cases h : 0 ≤ hand <;> simp [h]
theorem count_act {L : List Inf} {hand : Int} (h : Act1 L hand) (hhi : hand < L.length) : (countL L 2 : Int) = actN hand := by
  unfold actN
  by_cases h0 : 0 ≤ hand
  · rw [if_pos h0, countL_one 2 L hand.toNat (by omega) (fun i hi => by rw [h.act i hi]; omega)]
    rfl
  · rw [if_neg h0, countL_zero L 2 (fun i hi e => by have := (h.act i hi).1 e; omega)]
    rfl

/-- The law's own array. -/
def OutF (w : World) (g n : Nat) (f : Nat → Int) : Prop := w.heap[g]? = some (.cells ((List.range n).map (fun i => Value.int .i64 (f i))).toArray 3)
theorem OutF.cell {w : World} {g n : Nat} {f : Nat → Int} (h : OutF w g n f) (i : Nat) (hi : i < n) : w.cell? ⟨g, i, none⟩ = some (.int .i64 (f i)) := by
  unfold OutF at h
  simp [World.cell?, h, hi]
theorem OutF.free {w : World} {g n : Nat} {f : Nat → Int} (h : OutF w g n f) (i : Nat) : w.frozen? ⟨g, i, none⟩ = false := by
  unfold OutF at h
  simp [World.frozen?, h]
theorem OutF.lt {w : World} {g n : Nat} {f : Nat → Int} (h : OutF w g n f) : g < w.heap.size := by
  rcases Nat.lt_or_ge g w.heap.size with h' | h'
  · exact h'
  · unfold OutF at h; simp [Array.getElem?_eq_none h'] at h
theorem OutF.of {w w' : World} {g n : Nat} {f : Nat → Int} (h : OutF w g n f) (e : w'.heap[g]? = w.heap[g]?) : OutF w' g n f := e.trans h
theorem OutF.congr {w : World} {g n : Nat} {f f' : Nat → Int} (h : OutF w g n f) (e : ∀ i, i < n → f i = f' i) : OutF w g n f' := by
  unfold OutF at h ⊢
  rw [h]
  congr 3
  exact List.map_congr_left fun i hi => by rw [e i (by simpa using hi)]
theorem OutF.set {w : World} {g n : Nat} {f : Nat → Int} (h : OutF w g n f) (j : Nat) (hj : j < n) (x : Int) : OutF (w.setCell ⟨g, j, none⟩ (.int .i64 x)) g n (fun i => if i = j then x else f i) := by
  unfold OutF at h ⊢
  rw [heap_setCell_same _ _ _ _ _ _ _ h]
  congr 2
  apply Array.ext
  · simp
  · intro i h1 h2
    simp at h1 h2
    rw [Array.getElem_setIfInBounds (by simpa using h2)]
    by_cases e : j = i
    · subst e; simp
    · simp [e, Ne.symm e]
theorem Tab.ne_out {w : World} {p c g n : Nat} {L : List Inf} {f : Nat → Int} {size hand : Int} (t : Tab w p c L size hand) (h : OutF w g n f) (hn : n ≠ 3 ∨ True) : g ≠ p ∧ g ≠ c := by
  unfold OutF at h
  constructor
  · rintro rfl; have := t.hp; rw [h] at this; simp at this
  · rintro rfl; have := t.hc; rw [h] at this; simp at this

/-- What the law's array holds. -/
def fO (L : List Inf) (i : Nat) : Int := if (seg L i).state = 0 then 0 else 1

/-! ### What the calls do to the list -/
theorem inv_new (n : Nat) (size : Int) (h1 : 1 ≤ n) (h2 : n ≤ 512) (h3 : 0 ≤ size) (h4 : size ≤ 64) : Inv (List.replicate n Inf.zero) size (-1) where
  len := by simpa using h2
  pos := by rw [List.length_replicate]; omega
  live := by
    intro k hk
    have : seg (List.replicate n Inf.zero) k = Inf.zero := by
      unfold seg
      rw [List.getD_eq_getElem?_getD, List.getElem?_replicate]
      split <;> rfl
    rw [this]; exact ⟨by decide, h3⟩
  size := h4
  lo := by omega
  hi := by rw [List.length_replicate]; omega
theorem seg_rep0 (n k : Nat) : seg (List.replicate n Inf.zero) k = Inf.zero := by
  unfold seg
  rw [List.getD_eq_getElem?_getD, List.getElem?_replicate]
  split <;> rfl
theorem act_new (n : Nat) : Act1 (List.replicate n Inf.zero) (-1) := ⟨fun i hi => by rw [seg_rep0]; simp [Inf.zero]⟩

theorem len_upd (L : List Inf) (i : Int) (f : Inf → Inf) : (upd L i f).length = L.length := by simp [upd]
theorem len_addL (L : List Inf) (size i n : Int) : (addL L size i n).length = L.length := by unfold addL; split <;> simp [len_upd]
theorem seg_upd (L : List Inf) (i : Int) (f : Inf → Inf) (k : Nat) (h : i.toNat < L.length) : seg (upd L i f) k = if i.toNat = k then f (seg L k) else seg L k := by
  unfold upd
  rw [seg_set _ _ _ _ h]
  split
  · subst_vars; rfl
  · rfl
theorem inR_lt {L : List Inf} {i : Int} (h : inR L i = true) : i.toNat < L.length := by
  obtain ⟨j, rfl, hj⟩ := inR_yes h
  simpa using hj

theorem addL_state (L : List Inf) (size i n : Int) (k : Nat) : (seg (addL L size i n) k).state = (seg L k).state := by
  unfold addL
  split
  · rename_i h
    rw [Bool.and_eq_true] at h
    rw [seg_upd _ _ _ _ (inR_lt h.1)]
    split <;> rfl
  · rfl
theorem inv_add {L : List Inf} {size hand : Int} (h : Inv L size hand) (i n : Int) : Inv (addL L size i n) size hand where
  len := by rw [len_addL]; exact h.len
  pos := by rw [len_addL]; exact h.pos
  size := h.size
  lo := h.lo
  hi := by rw [len_addL]; exact h.hi
  live := by
    intro k hk
    rw [len_addL] at hk
    unfold addL
    split
    · rename_i hc
      rw [Bool.and_eq_true] at hc
      rw [seg_upd _ _ _ _ (inR_lt hc.1)]
      split
      · rename_i e
        have hf := of_decide_eq_true hc.2
        rw [e] at hf
        simp only
        omega
      · exact h.live k hk
    · exact h.live k hk
/-- Only states, and no lives, part two lists. -/
theorem inv_same {L M : List Inf} {size hand hand' : Int} (h : Inv L size hand) (hl : M.length = L.length) (hv : ∀ k, k < L.length → (seg M k).live = (seg L k).live) (h1 : -1 ≤ hand') (h2 : hand' < L.length) : Inv M size hand' where
  len := by rw [hl]; exact h.len
  pos := by rw [hl]; exact h.pos
  size := h.size
  lo := h1
  hi := by rw [hl]; exact h2
  live := by
    intro k hk
    rw [hl] at hk
    rw [hv k hk]
    exact h.live k hk

/-- Seize, segment by segment. -/
theorem seg_seize {L : List Inf} {size hand : Int} (h : Inv L size hand) (ha : Act1 L hand) (j : Nat) (hj : j < L.length) (k : Nat) (hk : k < L.length) :
    seg (seizeL L hand j) k = if j = k then { seg L k with state := 2 } else if hand = k then { seg L k with state := 1 } else seg L k := by
  unfold seizeL
  by_cases hc : 0 ≤ hand ∧ (seg L hand.toNat).state = 2
  · simp only [if_pos hc]
    have hh : hand.toNat < L.length := by have := h.hi; omega
    rw [seg_set _ _ _ _ (by rw [List.length_set]; exact hj)]
    by_cases e : j = k
    · subst e
      rw [if_pos rfl, if_pos rfl, seg_set _ _ _ _ hh]
      split
      · subst_vars; rfl
      · rfl
    · rw [if_neg e, if_neg e, seg_set _ _ _ _ hh]
      by_cases e2 : hand.toNat = k
      · rw [if_pos e2, if_pos (by omega), e2]
      · rw [if_neg e2, if_neg (by omega)]
  · simp only [if_neg hc]
    rw [seg_set _ _ _ _ hj]
    by_cases e : j = k
    · subst e; rw [if_pos rfl, if_pos rfl]
    · rw [if_neg e, if_neg e]
      by_cases e2 : hand = k
      · exfalso
        apply hc
        refine ⟨by omega, ?_⟩
        rw [show hand.toNat = k from by omega]
        exact (ha.act k hk).2 e2
      · rw [if_neg e2]
theorem len_seize (L : List Inf) (hand : Int) (j : Nat) : (seizeL L hand j).length = L.length := by
  unfold seizeL
  simp only
  split <;> simp
theorem inv_seize {L : List Inf} {size hand : Int} (h : Inv L size hand) (ha : Act1 L hand) (j : Nat) (hj : j < L.length) : Inv (seizeL L hand j) size j :=
  inv_same h (len_seize _ _ _) (fun k hk => by
    rw [seg_seize h ha j hj k hk]
    split
    · rfl
    · split <;> rfl) (by omega) (by omega)
theorem act_seize {L : List Inf} {size hand : Int} (h : Inv L size hand) (ha : Act1 L hand) (j : Nat) (hj : j < L.length) : Act1 (seizeL L hand j) j := ⟨by
  intro k hk
  rw [len_seize] at hk
  rw [seg_seize h ha j hj k hk]
  by_cases e : j = k
  · subst e; simp
  · rw [if_neg e]
    by_cases e2 : hand = k
    · rw [if_pos e2]; simp; omega
    · rw [if_neg e2, ha.act k hk]
      omega⟩
theorem relS_state (s : Inf) : (relS s).state = if relOk s then 0 else s.state := by unfold relS; split <;> rfl
theorem relS_live (s : Inf) : (relS s).live = s.live := by unfold relS; split <;> rfl
theorem relOk_ne (s : Inf) (h : relOk s = true) : s.state ≠ 0 ∧ s.state ≠ 2 := by
  unfold relOk at h
  simp at h
  exact ⟨h.1.1, h.1.2⟩
theorem act_rel {L : List Inf} {hand : Int} (ha : Act1 L hand) (i : Nat) (hi : i < L.length) : Act1 (L.set i (relS (seg L i))) hand := ⟨by
  intro k hk
  rw [List.length_set] at hk
  rw [seg_set _ _ _ _ hi]
  by_cases e : i = k
  · subst e
    rw [if_pos rfl, relS_state]
    split
    · rename_i hr
      have := ha.act i hi
      have := relOk_ne _ hr
      constructor
      · intro h; omega
      · intro h; exact absurd ((ha.act i hi).2 h) this.2
    · exact ha.act i hi
  · rw [if_neg e]; exact ha.act k hk⟩
theorem inv_rel {L : List Inf} {size hand : Int} (h : Inv L size hand) (i : Nat) (hi : i < L.length) : Inv (L.set i (relS (seg L i))) size hand :=
  inv_same h (by simp) (fun k hk => by
    rw [seg_set _ _ _ _ hi]
    split
    · subst_vars; exact relS_live _
    · rfl) h.lo h.hi
theorem act_use {L : List Inf} {hand : Int} (ha : Act1 L hand) (i : Nat) (hi : i < L.length) (h0 : (seg L i).state = 0) : Act1 (L.set i { seg L i with state := 1 }) hand := ⟨by
  intro k hk
  rw [List.length_set] at hk
  rw [seg_set _ _ _ _ hi]
  by_cases e : i = k
  · subst e
    rw [if_pos rfl]
    have := ha.act i hi
    simp only
    omega
  · rw [if_neg e]; exact ha.act k hk⟩
theorem inv_use {L : List Inf} {size hand : Int} (h : Inv L size hand) (i : Nat) (hi : i < L.length) : Inv (L.set i { seg L i with state := 1 }) size hand :=
  inv_same h (by simp) (fun k hk => by
    rw [seg_set _ _ _ _ hi]
    split
    · subst_vars; rfl
    · rfl) h.lo h.hi
theorem act_sweep {L : List Inf} {hand : Int} (ha : Act1 L hand) : Act1 (L.map relS) hand := ⟨by
  intro k hk
  rw [List.length_map] at hk
  rw [seg_map L k hk, relS_state]
  split
  · rename_i hr
    have h2 := (relOk_ne _ hr).2
    have := ha.act k hk
    constructor
    · intro h; omega
    · intro h; exact absurd (this.2 h) h2
  · exact ha.act k hk⟩
theorem inv_sweep {L : List Inf} {size hand : Int} (h : Inv L size hand) : Inv (L.map relS) size hand :=
  inv_same h (by simp) (fun k hk => by rw [seg_map L k hk, relS_live]) h.lo h.hi
theorem act_add {L : List Inf} {hand : Int} (ha : Act1 L hand) (size i n : Int) : Act1 (addL L size i n) hand := ⟨by
  intro k hk
  rw [len_addL] at hk
  rw [addL_state]
  exact ha.act k hk⟩

/-- What Sweep's list names. -/
theorem swept_mem (L : List Inf) (j : Nat) (h : j < (sweptTo L L.length).length) : ∃ s : Nat, (sweptTo L L.length).getD j 0 = s ∧ s < L.length ∧ relOk (seg L s) = true ∧ ∀ i, i < j → (sweptTo L L.length).getD i 0 ≠ s := by
  have hnd : (sweptTo L L.length).Pairwise (· < ·) := by
    unfold sweptTo
    rw [List.pairwise_map]
    simpa using List.Pairwise.filter (fun i => relOk (seg L i)) (List.pairwise_lt_range (n := L.length))
  have hm : (sweptTo L L.length)[j] ∈ sweptTo L L.length := List.getElem_mem h
  obtain ⟨s, hs, e⟩ := List.mem_map.1 hm
  obtain ⟨hs1, hs2⟩ := List.mem_filter.1 hs
  refine ⟨s, by rw [List.getD_eq_getElem?_getD, List.getElem?_eq_getElem h]; exact e.symm, by simpa using hs1, hs2, ?_⟩
  intro i hi he
  rw [List.getD_eq_getElem?_getD, List.getElem?_eq_getElem (by omega)] at he
  have h1 : (sweptTo L L.length)[i] = (sweptTo L L.length)[j] := by rw [← e]; exact he
  have h2 := List.pairwise_iff_getElem.1 hnd i j (by omega) h hi
  omega
theorem mem_swept (L : List Inf) (s : Nat) (hs : s < L.length) (hr : relOk (seg L s) = true) : ∃ j, j < (sweptTo L L.length).length ∧ (sweptTo L L.length).getD j 0 = s := by
  have hm : (s : Int) ∈ sweptTo L L.length := List.mem_map.2 ⟨s, List.mem_filter.2 ⟨by simpa using hs, hr⟩, rfl⟩
  obtain ⟨j, hj, e⟩ := List.getElem_of_mem hm
  exact ⟨j, hj, by rw [List.getD_eq_getElem?_getD, List.getElem?_eq_getElem hj]; exact e⟩
theorem IntsAt.open_ {w : World} {B : Nat} {v : Value} {l : List Int} (h : IntsAt w B v l) : ∃ a, v = .slice a l.length l.length ∧
    ∀ j, j < l.length → ∃ g, a = some ⟨g, 0, none⟩ ∧ B ≤ g ∧ w.cell? ⟨g, j, none⟩ = some (.int .i64 (l.getD j 0)) := by
  rcases h with ⟨rfl, rfl⟩ | ⟨g, rfl, hg, _, _, hc⟩
  · exact ⟨none, rfl, fun j hj => by simp at hj⟩
  · exact ⟨_, rfl, fun j hj => ⟨g, rfl, hg, hc j hj⟩⟩
/-- The array in round j of the law's loop over that list. -/
def fSw (L : List Inf) (j i : Nat) : Int := if ∃ x, x < j ∧ (sweptTo L L.length).getD x 0 = i then 0 else fO L i
end Go.Proofs.Ytfjkdkkljfgboaa
