/-
  The walks of the document's own table (package marlref10), part one: its memory, 'with', New, Count, Total. Conditions: the table's facts.
-/
import Derived.Test.YtfjkdkkljfgboaaPlayL
namespace Go.Proofs.Ytfjkdkkljfgboaa
open Go.RowKit
set_option linter.unusedVariables false

/-- The document's segments in memory: the first cells of block c. -/
def RefAt (w : World) (c : Nat) (L : List Inf) : Prop := ∃ cur, w.heap[c]? = some (.cells cur 74) ∧ cur.toList.take (L.length * 3) = flat L

section
variable {w : World} {c : Nat} {L : List Inf}
theorem RefAt.lt (h : RefAt w c L) : c < w.heap.size := by
  obtain ⟨cur, h1, _⟩ := h
  exact (Array.getElem?_eq_some_iff.1 h1).1
theorem RefAt.cellAt (h : RefAt w c L) (j : Nat) (hj : j < L.length * 3) : w.cell? ⟨c, j, none⟩ = (flat L)[j]? := by
  obtain ⟨cur, h1, h2⟩ := h
  have h3 : cur.toList[j]? = (flat L)[j]? := by rw [← h2, List.getElem?_take_of_lt hj]
  simp [World.cell?, h1, ← h3]
theorem RefAt.free (h : RefAt w c L) (j : Nat) : w.frozen? ⟨c, j, none⟩ = false := by
  obtain ⟨cur, h1, _⟩ := h
  simp [World.frozen?, h1]
theorem RefAt.live (h : RefAt w c L) (i : Nat) (hi : i < L.length) : w.cell? ⟨c, i * 3, none⟩ = some (.int .i64 (seg L i).live) := by
  rw [h.cellAt _ (by omega), flat_live L i hi]
theorem RefAt.state (h : RefAt w c L) (i : Nat) (hi : i < L.length) : w.cell? ⟨c, i * 3 + 1, none⟩ = some (.int .i64 (seg L i).state) := by
  rw [h.cellAt _ (by omega), flat_state L i hi]
theorem RefAt.age (h : RefAt w c L) (i : Nat) (hi : i < L.length) : w.cell? ⟨c, i * 3 + 2, none⟩ = some (.int .i64 (seg L i).age) := by
  rw [h.cellAt _ (by omega), flat_age L i hi]
theorem RefAt.of {w' : World} (h : RefAt w c L) (e : w'.heap[c]? = w.heap[c]?) : RefAt w' c L := by
  obtain ⟨cur, h1, h2⟩ := h
  exact ⟨cur, e.trans h1, h2⟩
theorem RefAt.only {w' : World} {S : Nat → Prop} (h : RefAt w c L) (o : Only S w w') (hS : ¬ S c) : RefAt w' c L := h.of (o.block c h.lt hS)
theorem RefAt.onlyF {w' : World} (h : RefAt w c L) (o : Only (fun _ => False) w w') : RefAt w' c L := h.only o (fun x => x)
theorem RefAt.alloc (h : RefAt w c L) (o : Obj) : RefAt (w.alloc o) c L := h.of (Below.heap_alloc _ _ _ h.lt)
theorem RefAt.setCells (h : RefAt w c L) (o : Nat) (v : Value) (L' : List Inf) (hL : (flat L).set o v = flat L') (hl : L'.length = L.length) (ho : o < L.length * 3) : RefAt (w.setCell ⟨c, o, none⟩ v) c L' := by
  obtain ⟨cur, h1, h2⟩ := h
  refine ⟨_, heap_setCell_same _ _ _ _ _ _ _ h1, ?_⟩
  rw [Array.toList_setIfInBounds, hl, ← hL, ← h2, List.take_set]
theorem RefAt.setLive (h : RefAt w c L) (i : Nat) (hi : i < L.length) (x : Int) : RefAt (w.setCell ⟨c, i * 3, none⟩ (.int .i64 x)) c (L.set i { seg L i with live := x }) :=
  h.setCells _ _ _ (flat_set_live L x i hi) (by simp) (by omega)
theorem RefAt.setState (h : RefAt w c L) (i : Nat) (hi : i < L.length) (x : Int) : RefAt (w.setCell ⟨c, i * 3 + 1, none⟩ (.int .i64 x)) c (L.set i { seg L i with state := x }) :=
  h.setCells _ _ _ (flat_set_state L x i hi) (by simp) (by omega)
theorem RefAt.setAge (h : RefAt w c L) (i : Nat) (hi : i < L.length) (x : Int) : RefAt (w.setCell ⟨c, i * 3 + 2, none⟩ (.int .i64 x)) c (L.set i { seg L i with age := x }) :=
  h.setCells _ _ _ (flat_set_age L x i hi) (by simp) (by omega)
theorem RefAt.setAll (h : RefAt w c L) (i : Nat) (hi : i < L.length) (s : Inf) :
    RefAt (((w.setCell ⟨c, i * 3, none⟩ (.int .i64 s.live)).setCell ⟨c, i * 3 + 1, none⟩ (.int .i64 s.state)).setCell ⟨c, i * 3 + 2, none⟩ (.int .i64 s.age)) c (L.set i s) := by
  have h3 := ((h.setLive i hi s.live).setState i (by simpa using hi) s.state).setAge i (by simpa using hi) s.age
  have e : ((L.set i { seg L i with live := s.live }).set i { seg (L.set i { seg L i with live := s.live }) i with state := s.state }).set i
      { seg ((L.set i { seg L i with live := s.live }).set i { seg (L.set i { seg L i with live := s.live }) i with state := s.state }) i with age := s.age } = L.set i s := by
    simp [seg_set, hi]
  rw [e] at h3
  exact h3
theorem RefAt.poke {k : Nat} (h : RefAt w c L) (hk : ¬ k = c) (j : Nat) (v : Value) : RefAt (w.setCell ⟨k, j, none⟩ v) c L :=
  h.of (Below.heap_setCell _ _ _ _ (fun e => hk e.symm))
/-- What append leaves reads as the document's segments. -/
theorem RefAt.owned {B g cap : Nat} (h : w.ownsRow B 74 3 (.slice (some ⟨g, 0, none⟩) L.length cap) L.length (flat L)) : RefAt w g L ∧ B ≤ g := by
  obtain ⟨_, h2⟩ := h
  rcases h2 with ⟨h0, _⟩ | ⟨g', cap', cur, hv, hg, hh, _, _, _, hx⟩
  · simp at h0
  · simp at hv
    obtain ⟨rfl, _⟩ := hv
    exact ⟨⟨cur, hh, hx⟩, hg⟩
end

/-- A block of three cells. -/
theorem three {w : World} {k : Nat} {x y z : Value} {e : TypeId} (h : w.heap[k]? = some (.cells #[x, y, z] e)) :
    w.cell? ⟨k, 0, none⟩ = some x ∧ w.cell? ⟨k, 1, none⟩ = some y ∧ w.cell? ⟨k, 2, none⟩ = some z ∧ w.frozen? ⟨k, 0, none⟩ = false ∧ w.frozen? ⟨k, 1, none⟩ = false ∧ w.frozen? ⟨k, 2, none⟩ = false := by
  refine ⟨?_, ?_, ?_, ?_, ?_, ?_⟩ <;> simp [World.cell?, World.frozen?, h]

theorem Try.info74 : (Try.prog.info? 74).map (fun i => (i.zero, i.size, i.bytes)) = some (some (.agg #[.int .i64 0, .int .i64 0, .int .i64 0]), 3, 24) := by kernel_rfl

theorem flat_one (L : List Inf) : ∀ u ∈ flat L, u.oneCell' = true := by
  induction L with
  | nil => intro u hu; simp [flat] at hu
  | cons s L ih =>
    intro u hu
    simp [flat] at hu
    rcases hu with rfl | rfl | rfl | hu
    · rfl
    · rfl
    · rfl
    · exact ih u hu
theorem flat_news {w : World} {c : Nat} {L : List Inf} (h : RefAt w c L) : ∀ j u, (flat L)[j]? = some u → w.cell? ((⟨c, 0, none⟩ : Addr).add j) = some u := by
  intro j u hj
  have hlt : j < L.length * 3 := by
    rw [← flat_length]
    exact (List.getElem?_eq_some_iff.1 hj).1
  have e : (⟨c, 0, none⟩ : Addr).add j = ⟨c, j, none⟩ := by
    unfold Addr.add
    split
    · subst_vars; rfl
    · simp
  rw [e, h.cellAt j hlt]
  exact hj

set_option maxHeartbeats 1000000 in
/-- 'with': new memory, one segment another. -/
theorem with_any {w : World} {c : Nat} {L : List Inf} (cap i : Nat) (size hand : Int) (s : Inf) (ht : RefAt w c L) (hi : i < L.length) (hL : L.length ≤ 512) :
    Calls Try.prog 41 #[.agg #[.slice (some ⟨c, 0, none⟩) L.length cap, .int .i64 size, .int .i64 hand], .int .i64 i, .agg #[.int .i64 s.live, .int .i64 s.state, .int .i64 s.age]] w fun e w' =>
      ∃ c' cap', e = .returned (.agg #[.slice (some ⟨c', 0, none⟩) L.length cap', .int .i64 size, .int .i64 hand]) ∧ RefAt w' c' (L.set i s) ∧ Only (fun _ => False) w w' := by
  obtain ⟨i0, hin, hz0, hz1, hz2⟩ := info_parts Try.info74
  have hW : ∃ W, W = (((w.alloc (.cells #[.slice (some ⟨c, 0, none⟩) L.length cap, .int .i64 size, .int .i64 hand] 52)).alloc (.cells #[.int .i64 s.live, .int .i64 s.state, .int .i64 s.age] 74)).alloc (.cells #[.slice none 0 0, .int .i64 0, .int .i64 0] 52)) := ⟨_, rfl⟩
  obtain ⟨W, hW⟩ := hW
  have hsz : W.heap.size = w.heap.size + 1 + 1 + 1 := by rw [hW, World.size_alloc, World.size_alloc, World.size_alloc]
  have oW : Only (fun _ => False) w W := by rw [hW]; exact ((((Only.refl _ w).alloc _).alloc _).alloc _)
  have a0 : W.heap[w.heap.size]? = some (.cells #[.slice (some ⟨c, 0, none⟩) L.length cap, .int .i64 size, .int .i64 hand] 52) := by
    rw [hW, Below.heap_alloc _ _ _ (by simp; omega), Below.heap_alloc _ _ _ (by simp)]
    exact heap_alloc_new _ _
  have a1 : W.heap[w.heap.size + 1]? = some (.cells #[.int .i64 s.live, .int .i64 s.state, .int .i64 s.age] 74) := by
    have hs : w.heap.size + 1 = (w.alloc (.cells #[.slice (some ⟨c, 0, none⟩) L.length cap, .int .i64 size, .int .i64 hand] 52)).heap.size := by simp
    rw [hW, Below.heap_alloc _ _ _ (by simp), hs]
    exact heap_alloc_new _ _
  have a2 : W.heap[w.heap.size + 1 + 1]? = some (.cells #[.slice none 0 0, .int .i64 0, .int .i64 0] 52) := by
    rw [hW]
    have hs : w.heap.size + 1 + 1 = ((w.alloc (.cells #[.slice (some ⟨c, 0, none⟩) L.length cap, .int .i64 size, .int .i64 hand] 52)).alloc (.cells #[.int .i64 s.live, .int .i64 s.state, .int .i64 s.age] 74)).heap.size := by simp
    rw [hs]
    exact heap_alloc_new _ _
  have rW : RefAt W c L := ht.onlyF oW
  have hown : (W.alloc (.cells #[] 74)).ownsRow W.heap.size 74 3 (.slice (some ⟨W.heap.size, 0, none⟩) 0 0) 0 [] := World.ownsRow_made W #[] 0 (Nat.le_refl _) (by unfold maxLen; omega) rfl
  rw [hsz] at hown
  have hnews := flat_news (rW.alloc (.cells #[] 74))
  have hone := flat_one L
  have hfl := flat_length L
  have HW := Lib.hid hW
  rw [hW] at hown hnews
  clear hW
  have HN := Lib.hid hnews
  have HO := Lib.hid hown
  have H1 := Lib.hid hone
  have HF := Lib.hid hfl
  clear hnews hown hone hfl
  go_enter Try.func41, Try.ntmps41
  go_wp2_with (at_builtin; refine wpList_append_own _ rfl _ _ 50 rfl (w.heap.size + 1 + 1 + 1) 74 i0 (.agg #[.int .i64 0, .int .i64 0, .int .i64 0]) 3 24 Try.underlying50 hin hz0 hz1 hz2 rfl (by decide) _ _ _ rfl HO.out ⟨c, 0, none⟩ L.length cap (flat L) rfl HF.out HN.out H1.out ?c3 ?c4 ?c5 ?_)
  case c3 => unfold maxLen; omega
  case c4 => omega
  case c5 => simp
  intro v' w5 hown5 hgrow hnn
  have hv : ∃ g cap', v' = .slice (some ⟨g, 0, none⟩) L.length cap' := by
    rcases hown5.2 with ⟨h0, _⟩ | ⟨g, cap', _, hv, _⟩
    · exact absurd h0 hnn
    · exact ⟨g, cap', hv⟩
  obtain ⟨g, cap', rfl⟩ := hv
  obtain ⟨r5, hgB⟩ := RefAt.owned hown5
  rw [← HW.out] at hgrow
  have blk : ∀ k, k < W.heap.size → w5.heap[k]? = W.heap[k]? := fun k hk => by
    rw [hgrow.block k (by simp; omega) (by simp [Value.ownBlock]; omega)]
    exact Below.heap_alloc _ _ _ hk
  have o5 : Only (fun _ => False) W w5 := ⟨hgrow.os, hgrow.tape, hgrow.output, by have := hgrow.size; simp at this; omega, fun k hk _ => blk k hk⟩
  have B0 := (blk w.heap.size (by omega)).trans a0
  have B1 := (blk (w.heap.size + 1) (by omega)).trans a1
  have R5 := (blk (w.heap.size + 1 + 1) (by omega)).trans a2
  have z5 : w.heap.size + 1 + 1 + 1 ≤ w5.heap.size := by have := o5.size; omega
  have oo := oW.trans o5
  clear a0 a1 a2 HN HO H1 HF hown5 hgrow hnn blk o5 oW hsz
  have hgw : w.heap.size ≤ g := by omega
  have hrw : w.heap.size ≤ w.heap.size + 1 + 1 := by omega
  have g1 : ¬ w.heap.size = g := by omega
  have g2 : ¬ g = w.heap.size := by omega
  have g3 : ¬ w.heap.size + 1 = g := by omega
  have g4 : ¬ g = w.heap.size + 1 := by omega
  have g5 : ¬ w.heap.size + 1 + 1 = g := by omega
  have g6 : ¬ g = w.heap.size + 1 + 1 := by omega
  obtain ⟨p0, p1, p2, p3, p4, p5⟩ := three B0
  obtain ⟨q0, q1, q2, _, _, _⟩ := three B1
  obtain ⟨s0, s1, s2, s3, s4, s5⟩ := three R5
  have c0 := r5.live i hi
  have c1 := r5.state i hi
  have c2 := r5.age i hi
  have c3 := r5.free (i * 3)
  have c4 := r5.free (i * 3 + 1)
  have c5 := r5.free (i * 3 + 2)
  go_wp2_with fail
  refine bodyPost_ret (v := .agg #[.slice (some ⟨g, 0, none⟩) L.length cap', .int .i64 size, .int .i64 hand]) (by simp [results, Try.results41, go_sem, s0, s1, s2, p1, p2, g6]) rfl ⟨g, cap', rfl, ?_, ?_⟩
  · exact ((((((r5.poke g1 _ _).setAll i hi s).poke g5 _ _).poke g5 _ _).poke g5 _ _))
  · exact ((((((((oo.setCell (q := ⟨w.heap.size, 0, none⟩) (.inr (Nat.le_refl _)) _).setCell (q := ⟨g, i * 3, none⟩) (.inr hgw) _).setCell (q := ⟨g, i * 3 + 1, none⟩) (.inr hgw) _).setCell (q := ⟨g, i * 3 + 2, none⟩) (.inr hgw) _).setCell
      (q := ⟨w.heap.size + 1 + 1, 0, none⟩) (.inr hrw) _).setCell (q := ⟨w.heap.size + 1 + 1, 1, none⟩) (.inr hrw) _).setCell (q := ⟨w.heap.size + 1 + 1, 2, none⟩) (.inr hrw) _))
end Go.Proofs.Ytfjkdkkljfgboaa
