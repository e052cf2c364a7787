/-
  The walks of usage's Release in one contract, of slices.Clip and of Sweep: what each answers on a table in memory. Conditions: the table's facts.
-/
import Derived.Test.YtfjkdkkljfgboaaRel
namespace Go.Proofs.Ytfjkdkkljfgboaa
open Go.RowKit
set_option linter.unusedVariables false
section
variable {w : World} {p c : Nat} {L : List Inf} {size hand : Int}

/-- May the segment be clean? -/
def relOk (s : Inf) : Bool := !(s.state == 0) && !(s.state == 2) && decide (s.live ≤ 0)
/-- What Release answers. -/
def relCode (s : Inf) : Int := if s.state = 0 then 103 else if s.state = 2 ∨ 0 < s.live then 16 else 0
/-- The segment behind it. -/
def relS (s : Inf) : Inf := if relOk s then ⟨s.live, 0, 0⟩ else s

theorem relCode_ok (s : Inf) : relCode s = 0 ↔ relOk s = true := by
  unfold relCode relOk
  by_cases h0 : s.state = 0
  · simp [h0]
  · by_cases h2 : s.state = 2
    · simp [h2]
    · by_cases h3 : 0 < s.live
      · simp [h0, h2, h3]
      · simp [h0, h2, h3]; omega

theorem seg_ext {L M : List Inf} (hl : L.length = M.length) (h : ∀ i, i < L.length → seg L i = seg M i) : L = M := by
  apply List.ext_getElem hl
  intro i h1 h2
  have := h i h1
  simpa [seg, h1, h2] using this
theorem set_seg (L : List Inf) (i : Nat) : L.set i (seg L i) = L := by
  by_cases h : i < L.length
  · simp [seg, h]
  · rw [List.set_eq_of_length_le (by omega)]

theorem release_any (i : Nat) (ht : Tab w p c L size hand) (h : i < L.length) :
    Calls Try.prog 11 #[.pointer (some ⟨p, 0, none⟩), .int .i64 i] w fun e w' => e = .returned (.int .i64 (relCode (seg L i))) ∧
      Tab w' p c (L.set i (relS (seg L i))) size hand ∧ Only (Two p c) w w' := by
  by_cases h0 : (seg L i).state = 0
  · refine (release_clean i ht h h0).mono fun e w' ⟨he, hw⟩ => ?_
    subst hw
    have e1 : relS (seg L i) = seg L i := by simp [relS, relOk, h0]
    rw [e1, set_seg]
    exact ⟨by rw [he, relCode, if_pos h0], ht, Only.refl _ _⟩
  · by_cases h2 : (seg L i).state = 2
    · refine (release_active i ht h h2).mono fun e w' ⟨he, hw⟩ => ?_
      subst hw
      have e1 : relS (seg L i) = seg L i := by simp [relS, relOk, h2]
      rw [e1, set_seg]
      exact ⟨by rw [he, relCode, if_neg h0, if_pos (.inl h2)], ht, Only.refl _ _⟩
    · by_cases h3 : 0 < (seg L i).live
      · refine (release_live i ht h h0 h2 h3).mono fun e w' ⟨he, hw⟩ => ?_
        subst hw
        have e1 : relS (seg L i) = seg L i := if_neg (by simp [relOk]; omega)
        rw [e1, set_seg]
        exact ⟨by rw [he, relCode, if_neg h0, if_pos (.inr h3)], ht, Only.refl _ _⟩
      · refine (release_ok i ht h h0 h2 (by omega)).mono fun e w' ⟨he, ht', ho⟩ => ?_
        have e1 : relS (seg L i) = ⟨(seg L i).live, 0, 0⟩ := by
          unfold relS
          rw [if_pos (by simp [relOk, h0, h2]; omega)]
        rw [e1]
        exact ⟨by rw [he, relCode, if_neg h0, if_neg (by omega)], ht', ho⟩

/-! ### Clip -/
/-- A slice of ints that the call has made, cut to its length. -/
def IntsAt (w : World) (B : Nat) (v : Value) (l : List Int) : Prop :=
  (v = .slice none 0 0 ∧ l = []) ∨ ∃ g, v = .slice (some ⟨g, 0, none⟩) l.length l.length ∧ B ≤ g ∧ g < w.heap.size ∧ l ≠ [] ∧ ∀ j, j < l.length → w.cell? ⟨g, j, none⟩ = some (.int .i64 (l.getD j 0))

theorem clip_any (B : Nat) (v : Value) (l : List Int) (hl : l.length ≤ 512) (hown : w.ownsRow B 3 1 v l.length (l.map (Value.int .i64))) (hnil : v = .slice none 0 0 ↔ l = []) :
    Calls Try.prog 28 #[v] w fun e w' => ∃ v', e = .returned v' ∧ IntsAt w B v' l ∧ w = w' := by
  obtain ⟨_, h⟩ := hown
  rcases h with ⟨rfl, h0⟩ | ⟨g, cap, cur, rfl, hg, hh, hn, hcap, hcur, hx⟩
  · go_enter Try.func28, Try.ntmps28
    go_wp2
    go_ret
    exact ⟨_, rfl, .inl ⟨rfl, List.eq_nil_of_length_eq_zero h0⟩, rfl⟩
  · have hne : l ≠ [] := fun e => by have := hnil.2 e; simp at this
    clear hnil
    unfold maxLen at hcap
    have hlt : g < w.heap.size := (Array.getElem?_eq_some_iff.1 hh).1
    have HC : ∀ j, j < l.length → w.cell? ⟨g, j, none⟩ = some (.int .i64 (l.getD j 0)) := by
      intro j hj
      have h1 : cur.toList[j]? = some (.int .i64 (l.getD j 0)) := by
        have h2 : (cur.toList.take (l.length * 1))[j]? = (l.map (Value.int .i64))[j]? := by rw [hx]
        rw [List.getElem?_take_of_lt (by omega), List.getElem?_map, List.getElem?_eq_getElem hj] at h2
        rw [h2]; simp [List.getD, hj]
      have h3 : cur[j]? = some (.int .i64 (l.getD j 0)) := by rw [← h1]; simp
      simp [World.cell?, hh, h3]
    clear hx hh
    have H := Lib.hid HC
    clear HC
    go_enter Try.func28, Try.ntmps28
    go_wp2
    go_ret
    exact ⟨_, rfl, .inr ⟨g, rfl, hg, hlt, hne, H.out⟩, rfl⟩

/-! ### Sweep -/
def sweepTo (L : List Inf) (k : Nat) : List Inf := (L.take k).map relS ++ L.drop k
def sweptTo (L : List Inf) (k : Nat) : List Int := ((List.range k).filter (fun i => relOk (seg L i))).map (fun i : Nat => (i : Int))
theorem sweepTo_zero (L : List Inf) : sweepTo L 0 = L := by simp [sweepTo]
theorem sweepTo_all (L : List Inf) : sweepTo L L.length = L.map relS := by simp [sweepTo]
theorem len_sweepTo (L : List Inf) (k : Nat) : (sweepTo L k).length = L.length := by simp [sweepTo]; omega
theorem seg_sweepTo (L : List Inf) (k : Nat) (h : k < L.length) : seg (sweepTo L k) k = seg L k := by
  unfold sweepTo seg
  rw [List.getD_eq_getElem?_getD, List.getElem?_append_right (by simp; omega)]
  simp [List.getD, Nat.min_eq_left (Nat.le_of_lt h)]
theorem sweepTo_succ (L : List Inf) (k : Nat) (h : k < L.length) : (sweepTo L k).set k (relS (seg L k)) = sweepTo L (k + 1) := by
  unfold sweepTo
  rw [List.set_append_right _ _ (by simp; omega), List.take_succ_eq_append_getElem h, List.map_append, List.append_assoc]
  congr 1
  have e : k - (List.map relS (List.take k L)).length = 0 := by simp; omega
  have e2 : List.drop k L = seg L k :: List.drop (k + 1) L := by rw [List.drop_eq_getElem_cons h]; simp [seg, h]
  have e3 : seg L k = L[k] := by simp [seg, h]
  rw [e, e2, e3]
  rfl
theorem swept_yes (L : List Inf) (k : Nat) (h : relOk (seg L k) = true) : sweptTo L (k + 1) = sweptTo L k ++ [(k : Int)] := by
  simp [sweptTo, List.range_succ, List.filter_append, h]
theorem swept_no (L : List Inf) (k : Nat) (h : relOk (seg L k) = false) : sweptTo L (k + 1) = sweptTo L k := by
  simp [sweptTo, List.range_succ, List.filter_append, h]
theorem len_swept (L : List Inf) (k : Nat) : (sweptTo L k).length ≤ k := by
  unfold sweptTo
  rw [List.length_map]
  exact Nat.le_trans (List.length_filter_le _ _) (by simp)

theorem Try.info3 : (Try.prog.info? 3).map (fun i => (i.zero, i.size, i.bytes)) = some (some (.int .i64 0), 1, 8) := by kernel_rfl

/-- What the loop of Sweep keeps. -/
def Out (w wr : World) (v : Value) (l : List Int) : Prop := wr.ownsRow w.heap.size 3 1 v l.length (l.map (Value.int .i64)) ∧ (v = .slice none 0 0 ↔ l = [])

theorem ownsRow_only {w w' : World} {B e size n : Nat} {v : Value} {xs : List Value} {S : Nat → Prop} (h : w.ownsRow B e size v n xs) (o : Only S w w') (hS : ∀ k, S k → k < B) : w'.ownsRow B e size v n xs := by
  refine ⟨h.1, ?_⟩
  rcases h.2 with h2 | ⟨g, cap, cur, hv, hg, hh, r⟩
  · exact .inl h2
  · refine .inr ⟨g, cap, cur, hv, hg, ?_, r⟩
    rw [o.block g (Array.getElem?_eq_some_iff.1 hh).1 (fun s => by have := hS g s; omega)]
    exact hh

theorem Only.grown {S : Nat → Prop} {a w w' : World} {row : Option Nat} (h : Only S a w) (hg : w.grownBy w' row) (hr : ∀ k, row = some k → a.heap.size ≤ k) : Only S a w' :=
  ⟨hg.os.trans h.os, hg.tape.trans h.tape, hg.output.trans h.output, Nat.le_trans h.size hg.size,
    fun k hk hs => (hg.block k (Nat.lt_of_lt_of_le hk h.size) (fun e => by have := hr k e.symm; omega)).trans (h.block k hk hs)⟩
theorem Tab.grown {w w' : World} {row : Option Nat} (t : Tab w p c L size hand) (hg : w.grownBy w' row) (hr : ∀ k, row = some k → k ≠ p ∧ k ≠ c) : Tab w' p c L size hand :=
  t.of (hg.block p t.plt (fun e => (hr p e.symm).1 rfl)) (hg.block c t.clt (fun e => (hr c e.symm).2 rfl))

set_option maxHeartbeats 1000000 in
theorem sweep_any (ht : Tab w p c L size hand) (hL : L.length ≤ 512) :
    Calls Try.prog 17 #[.pointer (some ⟨p, 0, none⟩)] w fun e w' => ∃ v, e = .returned v ∧ IntsAt w' w.heap.size v (sweptTo L L.length) ∧
      Tab w' p c (L.map relS) size hand ∧ Only (Two p c) w w' := by
  have hl := ht.l
  obtain ⟨i0, hi, hz0, hz1, hz2⟩ := info_parts Try.info3
  have hplt := ht.plt
  have hclt := ht.clt
  go_enter Try.func17, Try.ntmps17
  go_wp2
  go_loopw [10, 3] (fun i v wr => ∃ k : Nat, k ≤ L.length ∧ i = .int .i64 k ∧ Out w wr v (sweptTo L k) ∧ Tab wr p c (sweepTo L k) size hand ∧ Only (Two p c) w wr) (fun i _ _ => L.length - (intOf i).toNat)
  case atStart => exact ⟨0, Nat.zero_le _, rfl, ⟨World.ownsRow_nil _ _ _ _, by simp [sweptTo]⟩, by rw [sweepTo_zero]; exact ht, Only.refl _ _⟩
  case round =>
    obtain ⟨k, hk, rfl, ⟨hown, hnil⟩, t, o⟩ := hrel
    have hlen := len_swept L k
    by_cases hlt : k < L.length
    · have hR := release_any k t (by rw [len_sweepTo]; exact hlt)
      rw [seg_sweepTo L k hlt, sweepTo_succ L k hlt] at hR
      have H1 := Lib.hid hown
      have H2 := Lib.hid hnil
      clear hown hnil
      by_cases hok : relOk (seg L k) = true
      · have hcode : relCode (seg L k) = 0 := (relCode_ok _).2 hok
        have hsw := swept_yes L k hok
        rw [hcode] at hR
        clear hcode hok
        have HS := Lib.hid hsw
        clear hsw
        go_wp2_with fail
        refine hR.mono ?_
        rintro e w4 ⟨rfl, t4, o4⟩
        clear hR
        have hown := ownsRow_only H1.out o4 (fun x hx => by rcases hx with rfl | rfl <;> assumption)
        have osz := o.size
        have osz4 := o4.size
        go_wp2_with (at_builtin; refine wpList_append_own _ rfl _ _ 44 rfl w.heap.size 3 i0 (.int .i64 0) 1 8 Try.underlying44 hi hz0 hz1 hz2 rfl (by decide) _ _ _ rfl (hown.alloc _) ⟨w4.heap.size, 0, none⟩ 1 1 [.int .i64 k] rfl rfl ?c1 ?c2 ?c3 ?c4 ?c5 ?_)
        case c1 =>
          intro j u hj
          match j, hj with
          | 0, hj => simp at hj; subst hj; simp [Addr.add]
          | j + 1, hj => simp at hj
        case c2 => intro u hu; simp at hu; subst hu; rfl
        case c3 => unfold maxLen; omega
        case c4 => omega
        case c5 => simp; omega
        intro v' w5 hown5 hgrow hnn
        have hb := fun x hx => (hown.lt x hx).1
        have ow5 : Only (Two p c) w w5 := ((o.trans o4).alloc _).grown hgrow hb
        have t5 : Tab w5 p c (sweepTo L (k + 1)) size hand := (t4.alloc _).grown hgrow (fun x hx => by have := hb x hx; omega)
        have hout : Out w w5 v' (sweptTo L (k + 1)) := by
          rw [HS.out]
          refine ⟨by simpa using hown5, ?_⟩
          constructor
          · intro h; exact absurd h hnn
          · intro h; simp at h
        clear hown hown5 hgrow hnn hb
        go_wp2_with fail
        go_roundw
        case rel => exact ⟨k + 1, by omega, by go_num, hout, t5, ow5⟩
        case measure => simp [intOf]; omega
      · have hok' : relOk (seg L k) = false := by simpa using hok
        have hcode : (relCode (seg L k) == 0) = false := by
          rw [beq_eq_false_iff_ne]; exact fun e => hok ((relCode_ok _).1 e)
        have hsw := swept_no L k hok'
        clear hok hok'
        have HS := Lib.hid hsw
        clear hsw
        go_wp2_with fail
        refine hR.mono ?_
        rintro e w4 ⟨rfl, t4, o4⟩
        clear hR
        have hown := ownsRow_only H1.out o4 (fun x hx => by rcases hx with rfl | rfl <;> assumption)
        have hout : Out w w4 u3 (sweptTo L (k + 1)) := by
          rw [HS.out]; exact ⟨hown, H2.out⟩
        clear hown
        go_wp2_with fail
        go_roundw
        case rel => exact ⟨k + 1, by omega, by go_num, hout, t4, o.trans o4⟩
        case measure => simp [intOf]; omega
    · obtain rfl : k = L.length := by omega
      have hC := clip_any w.heap.size u3 (sweptTo L L.length) (by omega) hown hnil
      rw [sweepTo_all] at t
      clear hown hnil
      go_wp2_with fail
      refine hC.mono ?_
      rintro e w4 ⟨v', rfl, hI, rfl⟩
      clear hC
      go_wp2_with fail
      go_ret
      exact ⟨v', rfl, hI, t, o⟩
end
end Go.Proofs.Ytfjkdkkljfgboaa
