/-
  The walks of the document's own table (package marlref10), part four: Seize. Conditions: the table's facts.
-/
import Derived.Test.YtfjkdkkljfgboaaRef2
namespace Go.Proofs.Ytfjkdkkljfgboaa
open Go.RowKit
set_option linter.unusedVariables false

def dem (s : Inf) : Inf := if s.state = 2 then { s with state := 1 } else s
def demTo (L : List Inf) (k : Nat) : List Inf := (L.take k).map dem ++ L.drop k
theorem demTo_zero (L : List Inf) : demTo L 0 = L := by simp [demTo]
theorem demTo_all (L : List Inf) : demTo L L.length = L.map dem := by simp [demTo]
theorem len_demTo (L : List Inf) (k : Nat) : (demTo L k).length = L.length := by simp [demTo]; omega
theorem seg_demTo (L : List Inf) (k : Nat) (h : k < L.length) : seg (demTo L k) k = seg L k := by
  unfold demTo seg
  rw [List.getD_eq_getElem?_getD, List.getElem?_append_right (by simp; omega)]
  simp [List.getD, Nat.min_eq_left (Nat.le_of_lt h)]
theorem demTo_succ (L : List Inf) (k : Nat) (h : k < L.length) : (demTo L k).set k (dem (seg L k)) = demTo L (k + 1) := by
  unfold demTo
  rw [List.set_append_right _ _ (by simp; omega), List.take_succ_eq_append_getElem h, List.map_append, List.append_assoc]
  congr 1
  have e : k - (List.map dem (List.take k L)).length = 0 := by simp; omega
  have e2 : List.drop k L = seg L k :: List.drop (k + 1) L := by rw [List.drop_eq_getElem_cons h]; simp [seg, h]
  have e3 : seg L k = L[k] := by simp [seg, h]
  rw [e, e2, e3]
  rfl
theorem dem_seize {L : List Inf} {size hand : Int} (h : Inv L size hand) (ha : Act1 L hand) (j : Nat) (hj : j < L.length) :
    (L.map dem).set j { seg (L.map dem) j with state := 2 } = seizeL L hand j := by
  apply seg_ext
  · rw [List.length_set, List.length_map, len_seize]
  · intro k hk
    rw [List.length_set, List.length_map] at hk
    have hm : ∀ x, x < L.length → seg (L.map dem) x = dem (seg L x) := fun x hx => by simp [seg, hx]
    rw [seg_set _ _ _ _ (by simpa using hj), seg_seize h ha j hj k hk]
    by_cases e : j = k
    · subst e
      rw [if_pos rfl, if_pos rfl, hm j hj]
      unfold dem
      split <;> rfl
    · rw [if_neg e, if_neg e, hm k hk]
      unfold dem
      have := ha.act k hk
      by_cases e2 : hand = k
      · rw [if_pos e2, if_pos (this.2 e2)]
      · rw [if_neg e2, if_neg (fun x => e2 (this.1 x))]

section
variable {w : World} {c : Nat} {L : List Inf}

theorem rseize_out (cap : Nat) (i size hand : Int) (ht : RefAt w c L) (hR : inR L i = false) :
    Calls Try.prog 37 #[.agg #[.slice (some ⟨c, 0, none⟩) L.length cap, .int .i64 size, .int .i64 hand], .int .i64 i] w (RefRes w L L.length size hand 22) := by
  have h := inR_no hR
  by_cases h1 : i < 0
  · go_enter Try.func37, Try.ntmps37
    go_wp2_with fail
    exact bodyPost_ret (v := .tuple #[.agg #[.slice (some ⟨c, 0, none⟩) L.length cap, .int .i64 size, .int .i64 hand], .int .i64 22]) (by simp [results, Try.results37, go_sem]) rfl ⟨c, cap, rfl, ((ht.alloc _).alloc _), ((Only.refl _ _).alloc _).alloc _⟩
  · have h2 : (L.length : Int) ≤ i := by omega
    go_enter Try.func37, Try.ntmps37
    go_wp2_with fail
    exact bodyPost_ret (v := .tuple #[.agg #[.slice (some ⟨c, 0, none⟩) L.length cap, .int .i64 size, .int .i64 hand], .int .i64 22]) (by simp [results, Try.results37, go_sem]) rfl ⟨c, cap, rfl, ((ht.alloc _).alloc _), ((Only.refl _ _).alloc _).alloc _⟩

set_option maxHeartbeats 1000000 in
theorem rseize_in (cap j : Nat) (size hand : Int) (ht : RefAt w c L) (hj : j < L.length) (hL : L.length ≤ 512) :
    Calls Try.prog 37 #[.agg #[.slice (some ⟨c, 0, none⟩) L.length cap, .int .i64 size, .int .i64 hand], .int .i64 j] w
      (RefRes w ((L.map dem).set j { seg (L.map dem) j with state := 2 }) L.length size j 0) := by
  obtain ⟨i0, hin, hz0, hz1, hz2⟩ := info_parts Try.info74
  obtain ⟨W, hW⟩ : ∃ W, W = ((w.alloc (.cells #[.slice (some ⟨c, 0, none⟩) L.length cap, .int .i64 size, .int .i64 hand] 52)).alloc (.cells #[.slice none 0 0, .int .i64 0, .int .i64 0] 52)) := ⟨_, rfl⟩
  have hsz : W.heap.size = w.heap.size + 1 + 1 := by rw [hW, World.size_alloc, World.size_alloc]
  have oW : Only (fun _ => False) w W := by rw [hW]; exact ((Only.refl _ w).alloc _).alloc _
  have a0 : W.heap[w.heap.size]? = some (.cells #[.slice (some ⟨c, 0, none⟩) L.length cap, .int .i64 size, .int .i64 hand] 52) := by
    rw [hW, Below.heap_alloc _ _ _ (by simp)]
    exact heap_alloc_new _ _
  have a1 : W.heap[w.heap.size + 1]? = some (.cells #[.slice none 0 0, .int .i64 0, .int .i64 0] 52) := by
    have hs : w.heap.size + 1 = (w.alloc (.cells #[.slice (some ⟨c, 0, none⟩) L.length cap, .int .i64 size, .int .i64 hand] 52)).heap.size := by simp
    rw [hW, hs]
    exact heap_alloc_new _ _
  have rW : RefAt W c L := ht.onlyF oW
  have hown : (W.alloc (.cells #[] 74)).ownsRow W.heap.size 74 3 (.slice (some ⟨W.heap.size, 0, none⟩) 0 0) 0 [] := World.ownsRow_made W #[] 0 (Nat.le_refl _) (by unfold maxLen; omega) rfl
  rw [hsz] at hown
  have hnews := flat_news (rW.alloc (.cells #[] 74))
  have HW := Lib.hid hW
  rw [hW] at hown hnews
  clear hW
  have HN := Lib.hid hnews
  have HO := Lib.hid hown
  have H1 := Lib.hid (flat_one L)
  have HF := Lib.hid (flat_length L)
  clear hnews hown
  go_enter Try.func37, Try.ntmps37
  go_wp2_with (at_builtin; refine wpList_append_own _ rfl _ _ 50 rfl (w.heap.size + 1 + 1) 74 i0 (.agg #[.int .i64 0, .int .i64 0, .int .i64 0]) 3 24 Try.underlying50 hin hz0 hz1 hz2 rfl (by decide) _ _ _ rfl HO.out ⟨c, 0, none⟩ L.length cap (flat L) rfl HF.out HN.out H1.out ?c3 ?c4 ?c5 ?_)
  case c3 => unfold maxLen; omega
  case c4 => omega
  case c5 => simp
  intro v' w5 hown5 hgrow hnn
  have hv : ∃ g cap', v' = .slice (some ⟨g, 0, none⟩) L.length cap' := by
    rcases hown5.2 with ⟨h0, _⟩ | ⟨g, cap', _, hv, _⟩
    · exact absurd h0 hnn
    · exact ⟨g, cap', hv⟩
  obtain ⟨g, cap', rfl⟩ := hv
  obtain ⟨r5, hgB⟩ := RefAt.owned hown5
  rw [← HW.out] at hgrow
  have blk : ∀ k, k < W.heap.size → w5.heap[k]? = W.heap[k]? := fun k hk => by
    rw [hgrow.block k (by simp; omega) (by simp [Value.ownBlock]; omega)]
    exact Below.heap_alloc _ _ _ hk
  have o5 : Only (fun _ => False) W w5 := ⟨hgrow.os, hgrow.tape, hgrow.output, by have := hgrow.size; simp at this; omega, fun k hk _ => blk k hk⟩
  have B0 := (blk w.heap.size (by omega)).trans a0
  have B1 := (blk (w.heap.size + 1) (by omega)).trans a1
  have oo := oW.trans o5
  clear a0 a1 HN HO H1 HF hown5 hgrow hnn blk o5 oW hsz HW rW
  have hgw : w.heap.size ≤ g := by omega
  have g1 : ¬ w.heap.size = g := by omega
  have g5 : ¬ w.heap.size + 1 = g := by omega
  have g7 : ¬ w.heap.size + 1 = w.heap.size := by omega
  have B2 := heap_setCell_same w5 w.heap.size 0 (.slice (some ⟨g, 0, none⟩) L.length cap') _ _ _ B0
  have r6 := r5.poke g1 0 (.slice (some ⟨g, 0, none⟩) L.length cap')
  have B3 : (w5.setCell ⟨w.heap.size, 0, none⟩ (.slice (some ⟨g, 0, none⟩) L.length cap')).heap[w.heap.size + 1]? = _ := (Below.heap_setCell _ _ _ _ g7).trans B1
  have o6 := oo.setCell (q := ⟨w.heap.size, 0, none⟩) (.inr (Nat.le_refl _)) (.slice (some ⟨g, 0, none⟩) L.length cap')
  obtain ⟨p0, p1, p2, p3, p4, p5⟩ := three B0
  go_wp2_with fail
  have B2' : (w5.setCell ⟨w.heap.size, 0, none⟩ (.slice (some ⟨g, 0, none⟩) L.length cap')).heap[w.heap.size]? = some (.cells #[.slice (some ⟨g, 0, none⟩) L.length cap', .int .i64 size, .int .i64 hand] 52) := B2
  generalize w5.setCell ⟨w.heap.size, 0, none⟩ (.slice (some ⟨g, 0, none⟩) L.length cap') = w6 at B2' B3 o6 r6 ⊢
  clear B0 B1 B2 r5 oo p0 p1 p2 p3 p4 p5 ht
  go_loopw [25] (fun i wr => ∃ k : Nat, k ≤ L.length ∧ i = .int .i64 k ∧ RefAt wr g (demTo L k) ∧
    wr.heap[w.heap.size]? = some (.cells #[.slice (some ⟨g, 0, none⟩) L.length cap', .int .i64 size, .int .i64 hand] 52) ∧
    wr.heap[w.heap.size + 1]? = some (.cells #[.slice none 0 0, .int .i64 0, .int .i64 0] 52) ∧ Only (fun _ => False) w wr) (fun i _ => L.length - (intOf i).toNat)
  case atStart => exact ⟨0, Nat.zero_le _, rfl, by rw [demTo_zero]; exact r6, B2', B3, o6⟩
  case round =>
    clear B2' B3 o6 r6
    obtain ⟨k, hk, rfl, r, T, Z, o⟩ := hrel
    obtain ⟨p0, p1, p2, p3, p4, p5⟩ := three T
    by_cases hlt : k < L.length
    · have c1 := r.state k (by rw [len_demTo]; exact hlt)
      rw [seg_demTo L k hlt] at c1
      have c4 := r.free (k * 3 + 1)
      by_cases h2 : (seg L k).state = 2
      · have hss : ((seg L k).state == 2) = true := by simpa using h2
        have rn := r.setState k (by rw [len_demTo]; exact hlt) 1
        have e : (demTo L k).set k { seg (demTo L k) k with state := 1 } = demTo L (k + 1) := by
          rw [← demTo_succ L k hlt, seg_demTo L k hlt]
          congr 1
          unfold dem
          rw [if_pos h2]
        rw [e] at rn
        have RN := Lib.hid rn
        clear h2 e rn
        go_wp2_with fail
        go_roundw
        case rel => exact ⟨k + 1, by omega, by go_num, RN.out, (Below.heap_setCell _ _ _ _ g1).trans T, (Below.heap_setCell _ _ _ _ g5).trans Z, o.setCell (q := ⟨g, k * 3 + 1, none⟩) (.inr hgw) _⟩
        case measure => simp [intOf]; omega
      · have hss : ((seg L k).state == 2) = false := by simpa using h2
        have rn := r
        have e : demTo L k = demTo L (k + 1) := by
          rw [← demTo_succ L k hlt]
          have e2 : dem (seg L k) = seg (demTo L k) k := by rw [seg_demTo L k hlt]; exact if_neg h2
          rw [e2, set_seg]
        rw [e] at rn
        have RN := Lib.hid rn
        clear h2 e rn
        go_wp2_with fail
        go_roundw
        case rel => exact ⟨k + 1, by omega, by go_num, RN.out, T, Z, o⟩
        case measure => simp [intOf]; omega
    · obtain rfl : k = L.length := by omega
      rw [demTo_all] at r
      have hjm : j < (L.map dem).length := by simpa using hj
      have c1 := r.state j hjm
      have c4 := r.free (j * 3 + 1)
      obtain ⟨q0, q1, q2, q3, q4, q5⟩ := three Z
      have g2 : ¬ g = w.heap.size := by omega
      have g6 : ¬ g = w.heap.size + 1 := by omega
      have rn := r.setState j hjm 2
      go_wp2_with fail
      refine bodyPost_ret (v := .tuple #[.agg #[.slice (some ⟨g, 0, none⟩) L.length cap', .int .i64 size, .int .i64 j], .int .i64 0]) (by simp [results, Try.results37, go_sem, q0, q1, q2]) rfl ⟨g, cap', rfl, ?_, ?_⟩
      · exact (((rn.poke g1 _ _).poke g5 _ _).poke g5 _ _).poke g5 _ _
      · exact ((((o.setCell (q := ⟨g, j * 3 + 1, none⟩) (.inr hgw) _).setCell (q := ⟨w.heap.size, 2, none⟩) (.inr (Nat.le_refl _)) _).setCell (q := ⟨w.heap.size + 1, 0, none⟩) (.inr (Nat.le_succ _)) _).setCell (q := ⟨w.heap.size + 1, 1, none⟩) (.inr (Nat.le_succ _)) _).setCell (q := ⟨w.heap.size + 1, 2, none⟩) (.inr (Nat.le_succ _)) _
end
end Go.Proofs.Ytfjkdkkljfgboaa
