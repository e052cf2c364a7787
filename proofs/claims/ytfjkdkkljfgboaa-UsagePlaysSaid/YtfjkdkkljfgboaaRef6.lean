/-
  The walks of the document's own table (package marlref10), part six: Take, Sweep. Conditions: the table's facts.
-/
import Derived.Test.YtfjkdkkljfgboaaRef3
import Derived.Test.YtfjkdkkljfgboaaRef4
import Derived.Test.YtfjkdkkljfgboaaRef5
namespace Go.Proofs.Ytfjkdkkljfgboaa
open Go.RowKit
set_option linter.unusedVariables false

/-- The document's hand. -/
def refH (n : Nat) (hand : Int) : Int := if hand < 0 then (n : Int) - 1 else hand
theorem refH_bd {n : Nat} {hand : Int} (hn : 0 < n) (h0 : -1 ≤ hand) (h1 : hand < n) : 0 ≤ refH n hand ∧ refH n hand < n := by
  unfold refH
  by_cases h : hand < 0
  · rw [if_pos h]; omega
  · rw [if_neg h]; omega
theorem ref_spot (n m : Nat) (hand : Int) (h0 : -1 ≤ hand) (h1 : hand < n) : (refH n hand + ((m : Int) + 1)) % n = (spotOf n hand m : Nat) := by
  unfold refH spotOf
  split
  · have e : hand = -1 := by omega
    subst e
    rw [show (n : Int) - 1 + ((m : Int) + 1) = (m : Int) + n from by omega, Int.add_emod_right]
    simp
  · obtain ⟨q, rfl⟩ : ∃ q : Nat, hand = q := ⟨hand.toNat, by omega⟩
    rw [show ((q : Int) + 1).toNat = q + 1 from by omega, show (q : Int) + ((m : Int) + 1) = ((q + 1 + m : Nat) : Int) from by omega]
    rfl

/-- The first two blocks, behind a call that only makes memory. -/
theorem two_blocks {w w5 : World} (A B : Obj) (o : Only (fun _ => False) ((w.alloc A).alloc B) w5) : w5.heap[w.heap.size]? = some A ∧ w5.heap[w.heap.size + 1]? = some B := by
  constructor
  · rw [o.block w.heap.size (by simp; omega) (fun h => h), Below.heap_alloc _ _ _ (by simp)]
    exact heap_alloc_new w A
  · rw [o.block (w.heap.size + 1) (by simp) (fun h => h)]
    have h := heap_alloc_new (w.alloc A) B
    rw [World.size_alloc] at h
    exact h
theorem two_only {w w5 : World} (A B : Obj) (o : Only (fun _ => False) ((w.alloc A).alloc B) w5) : Only (fun _ => False) w w5 :=
  (((Only.refl _ w).alloc A).alloc B).trans o

/-- What the document's Take answers: a table, a segment and a code. -/
def RefTk (w : World) (L' : List Inf) (n : Nat) (size hand s code : Int) (e : Ending) (w' : World) : Prop :=
  ∃ c' cap', e = .returned (.tuple #[.agg #[.slice (some ⟨c', 0, none⟩) n cap', .int .i64 size, .int .i64 hand], .int .i64 s, .int .i64 code]) ∧ RefAt w' c' L' ∧ Only (fun _ => False) w w'

section
variable {w : World} {c : Nat} {L : List Inf}

set_option maxHeartbeats 1000000 in
theorem rtake_ok (cap m : Nat) (size hand : Int) (ht : RefAt w c L) (hL : L.length ≤ 512) (h0 : -1 ≤ hand) (h1 : hand < L.length) (hm : m < L.length)
    (hbusy : ∀ k, k < m → (seg L (spotOf L.length hand k)).state ≠ 0) (hclean : (seg L (spotOf L.length hand m)).state = 0) :
    Calls Try.prog 32 #[.agg #[.slice (some ⟨c, 0, none⟩) L.length cap, .int .i64 size, .int .i64 (refH L.length hand)]] w
      (RefTk w ((L.map dem).set (spotOf L.length hand m) { seg (L.map dem) (spotOf L.length hand m) with state := 2 }) L.length size (spotOf L.length hand m : Nat) (spotOf L.length hand m : Nat) 0) := by
  have hne : ((L.length : Int) == 0) = false := beq_eq_false_iff_ne.2 (by omega)
  obtain ⟨r1, r2⟩ := refH_bd (n := L.length) (by omega) h0 h1
  have HB := Lib.hid hbusy
  have HC := Lib.hid hclean
  have HS := Lib.hid (fun k => ref_spot L.length k hand h0 h1)
  have hr := (ht.alloc (.cells #[.slice (some ⟨c, 0, none⟩) L.length cap, .int .i64 size, .int .i64 (refH L.length hand)] 52)).alloc (.cells #[.slice none 0 0, .int .i64 0, .int .i64 0] 52)
  have V1 := Lib.hid (fun k hk => hr.state k hk)
  have hlt0 : ∀ k, spotOf L.length hand k < L.length := fun k => Nat.mod_lt _ (by omega)
  have HL := Lib.hid hlt0
  clear hbusy hclean hlt0
  generalize refH L.length hand = H at *
  go_enter Try.func32, Try.ntmps32
  go_wp2_with fail
  go_loop [5] (fun i => ∃ k : Nat, k ≤ m ∧ i = .int .i64 ((k : Int) + 1)) (fun i => L.length + 1 - (intOf i).toNat)
  case atStart => exact ⟨0, Nat.zero_le _, rfl⟩
  case round =>
    obtain ⟨k, hk, rfl⟩ := hrel
    have hsp := HL.out k
    have hst := V1.out _ hsp
    have hmod := HS.out k
    by_cases hlt : k < m
    · have hss : ((seg L (spotOf L.length hand k)).state != 0) = true := by simpa using HB.out k hlt
      go_wp2_with fail
      go_round
      case rel => exact ⟨k + 1, by omega, by go_num⟩
      case measure => simp [intOf]; omega
    · obtain rfl : k = m := by omega
      have hss : ((seg L (spotOf L.length hand k)).state != 0) = false := by simpa using HC.out
      have hS := rseize_in cap (spotOf L.length hand k) size H hr hsp hL
      go_wp2_with fail
      refine hS.mono ?_
      rintro e w5 ⟨c', cap', rfl, r5, o5⟩
      obtain ⟨T, Z⟩ := two_blocks _ _ o5
      have o6 := two_only _ _ o5
      have hn1 := r5.ne52 T
      have hn2 := r5.ne52 Z
      obtain ⟨p0, p1, p2, p3, p4, p5⟩ := three T
      obtain ⟨q0, q1, q2, q3, q4, q5⟩ := three Z
      clear hS o5
      go_wp2_with fail
      refine bodyPost_ret (v := .tuple #[.agg #[.slice (some ⟨c', 0, none⟩) L.length cap', .int .i64 size, .int .i64 (spotOf L.length hand k : Nat)], .int .i64 (spotOf L.length hand k : Nat), .int .i64 0]) (by simp [results, Try.results32, go_sem, q0, q1, q2]) rfl ⟨c', cap', rfl, ?_, ?_⟩
      · exact (((((r5.poke hn1 _ _).poke hn1 _ _).poke hn1 _ _).poke hn2 _ _).poke hn2 _ _).poke hn2 _ _
      · exact (((((o6.setCell (q := ⟨w.heap.size, 0, none⟩) (.inr (Nat.le_refl _)) _).setCell (q := ⟨w.heap.size, 1, none⟩) (.inr (Nat.le_refl _)) _).setCell (q := ⟨w.heap.size, 2, none⟩) (.inr (Nat.le_refl _)) _).setCell
          (q := ⟨w.heap.size + 1, 0, none⟩) (.inr (Nat.le_succ _)) _).setCell (q := ⟨w.heap.size + 1, 1, none⟩) (.inr (Nat.le_succ _)) _).setCell (q := ⟨w.heap.size + 1, 2, none⟩) (.inr (Nat.le_succ _)) _

set_option maxHeartbeats 1000000 in
theorem rtake_full (cap : Nat) (size hand : Int) (ht : RefAt w c L) (hL : L.length ≤ 512) (hpos : 0 < L.length) (h0 : -1 ≤ hand) (h1 : hand < L.length)
    (hbusy : ∀ k, k < L.length → (seg L (spotOf L.length hand k)).state ≠ 0) :
    Calls Try.prog 32 #[.agg #[.slice (some ⟨c, 0, none⟩) L.length cap, .int .i64 size, .int .i64 (refH L.length hand)]] w
      (RefTk w L L.length size (refH L.length hand) 0 28) := by
  obtain ⟨r1, r2⟩ := refH_bd (n := L.length) (by omega) h0 h1
  have HB := Lib.hid hbusy
  have HS := Lib.hid (fun k => ref_spot L.length k hand h0 h1)
  have hr := (ht.alloc (.cells #[.slice (some ⟨c, 0, none⟩) L.length cap, .int .i64 size, .int .i64 (refH L.length hand)] 52)).alloc (.cells #[.slice none 0 0, .int .i64 0, .int .i64 0] 52)
  have V1 := Lib.hid (fun k hk => hr.state k hk)
  clear hbusy
  generalize refH L.length hand = H at *
  go_enter Try.func32, Try.ntmps32
  go_wp2_with fail
  go_loop [5] (fun i => ∃ k : Nat, k ≤ L.length ∧ i = .int .i64 ((k : Int) + 1)) (fun i => L.length + 1 - (intOf i).toNat)
  case atStart => exact ⟨0, Nat.zero_le _, rfl⟩
  case round =>
    obtain ⟨k, hk, rfl⟩ := hrel
    by_cases hlt : k < L.length
    · have hne : ((L.length : Int) == 0) = false := beq_eq_false_iff_ne.2 (by omega)
      have hsp : spotOf L.length hand k < L.length := Nat.mod_lt _ (by omega)
      have hst := V1.out _ hsp
      have hmod := HS.out k
      have hss : ((seg L (spotOf L.length hand k)).state != 0) = true := by simpa using HB.out k hlt
      go_wp2_with fail
      go_round
      case rel => exact ⟨k + 1, by omega, by go_num⟩
      case measure => simp [intOf]; omega
    · go_wp2_with fail
      exact bodyPost_ret (v := .tuple #[.agg #[.slice (some ⟨c, 0, none⟩) L.length cap, .int .i64 size, .int .i64 H], .int .i64 0, .int .i64 28]) (by simp [results, Try.results32, go_sem]) rfl ⟨c, cap, rfl, ((ht.alloc _).alloc _), ((Only.refl _ _).alloc _).alloc _⟩

/-! ### Sweep -/
theorem liveOk_sweep (L : List Inf) (size : Int) (hv : LiveOk L size) (k : Nat) : LiveOk (sweepTo L k) size := by
  intro i hi
  rw [len_sweepTo] at hi
  have e : (seg (sweepTo L k) i).live = (seg L i).live := by
    unfold sweepTo
    by_cases h : i < k
    · have h1 : i < (List.map relS (List.take k L)).length := by simp; omega
      have : seg (List.map relS (List.take k L) ++ List.drop k L) i = relS (seg L i) := by
        unfold seg
        rw [List.getD_eq_getElem?_getD, List.getElem?_append_left h1]
        simp [h, hi]
      rw [this, relS_live]
    · have h1 : (List.map relS (List.take k L)).length ≤ i := by simp; omega
      have h2 : (List.map relS (List.take k L)).length = k := by simp; omega
      have : seg (List.map relS (List.take k L) ++ List.drop k L) i = seg L i := by
        unfold seg
        rw [List.getD_eq_getElem?_getD, List.getElem?_append_right h1, h2, List.getElem?_drop, List.getD_eq_getElem?_getD]
        congr 3; omega
      rw [this]
  rw [e]
  exact hv i hi
/-- What the document's Sweep answers: a table and a list. -/
def RefSw (w : World) (L' : List Inf) (n : Nat) (size hand : Int) (l : List Int) (e : Ending) (w' : World) : Prop :=
  ∃ c' cap' v, e = .returned (.tuple #[.agg #[.slice (some ⟨c', 0, none⟩) n cap', .int .i64 size, .int .i64 hand], v]) ∧ RefAt w' c' L' ∧ IntSl w' v l ∧ Only (fun _ => False) w w'

def Out2 (B : Nat) (wr : World) (v : Value) (l : List Int) : Prop := wr.ownsRow B 3 1 v l.length (l.map (Value.int .i64)) ∧ (v = .slice none 0 0 ↔ l = [])
theorem intSl_out {B : Nat} {wr : World} {v : Value} {l : List Int} (h : Out2 B wr v l) : IntSl wr v l := by
  obtain ⟨⟨_, h⟩, _⟩ := h
  rcases h with ⟨rfl, h0⟩ | ⟨g, cap, cur, rfl, hg, hh, hn, hcap, hcur, hx⟩
  · rw [List.eq_nil_of_length_eq_zero h0]
    exact ⟨none, 0, rfl, fun j hj => by simp at hj⟩
  · refine ⟨_, cap, rfl, fun j hj => ⟨g, rfl, ?_⟩⟩
    have h1 : cur.toList[j]? = some (.int .i64 (l.getD j 0)) := by
      have h2 : (cur.toList.take (l.length * 1))[j]? = (l.map (Value.int .i64))[j]? := by rw [hx]
      rw [List.getElem?_take_of_lt (by omega), List.getElem?_map, List.getElem?_eq_getElem hj] at h2
      rw [h2]; simp [List.getD, hj]
    have h3 : cur[j]? = some (.int .i64 (l.getD j 0)) := by rw [← h1]; simp
    simp [World.cell?, hh, h3]

theorem cell_one_at (w : World) (x : Value) (t : TypeId) (n : Nat) (hn : n = w.heap.size) : ∀ j u, [x][j]? = some u → (w.alloc (.cells #[x] t)).cell? ((⟨n, 0, none⟩ : Addr).add j) = some u := by
  subst hn
  intro j u hj
  match j, hj with
  | 0, hj => simp at hj; subst hj; simp [Addr.add]
  | j + 1, hj => simp at hj
theorem RefAt.grown {w w' : World} {c : Nat} {L : List Inf} {row : Option Nat} (r : RefAt w c L) (hg : w.grownBy w' row) (hr : row ≠ some c) : RefAt w' c L :=
  r.of (hg.block c r.lt (fun e => hr e.symm))
/-- Three stores into a block of three. -/
theorem three_set {w : World} {k : Nat} {x y z : Value} {e : TypeId} (h : w.heap[k]? = some (.cells #[x, y, z] e)) (x' y' z' : Value) :
    (((w.setCell ⟨k, 0, none⟩ x').setCell ⟨k, 1, none⟩ y').setCell ⟨k, 2, none⟩ z').heap[k]? = some (.cells #[x', y', z'] e) := by
  have h1 := heap_setCell_same w k 0 x' _ _ _ h
  have h2 := heap_setCell_same _ k 1 y' _ _ _ h1
  exact heap_setCell_same _ k 2 z' _ _ _ h2
theorem three_other {w : World} {k b : Nat} (hb : ¬ b = k) (x' y' z' : Value) :
    (((w.setCell ⟨k, 0, none⟩ x').setCell ⟨k, 1, none⟩ y').setCell ⟨k, 2, none⟩ z').heap[b]? = w.heap[b]? := by
  rw [Below.heap_setCell _ _ _ _ hb, Below.heap_setCell _ _ _ _ hb, Below.heap_setCell _ _ _ _ hb]

set_option maxHeartbeats 2000000 in
theorem rsweep_any (cap : Nat) (size hand : Int) (ht : RefAt w c L) (hL : L.length ≤ 512) (hv : LiveOk L size) :
    Calls Try.prog 35 #[.agg #[.slice (some ⟨c, 0, none⟩) L.length cap, .int .i64 size, .int .i64 hand]] w
      (RefSw w (L.map relS) L.length size hand (sweptTo L L.length)) := by
  obtain ⟨i0, hi, hz0, hz1, hz2⟩ := info_parts Try.info3
  have hr := (ht.alloc (.cells #[.slice (some ⟨c, 0, none⟩) L.length cap, .int .i64 size, .int .i64 hand] 52)).alloc (.cells #[.slice none 0 0, .int .i64 0, .int .i64 0] 52)
  have hb := two_blocks (w := w) (.cells #[.slice (some ⟨c, 0, none⟩) L.length cap, .int .i64 size, .int .i64 hand] 52) (.cells #[.slice none 0 0, .int .i64 0, .int .i64 0] 52) (Only.refl _ _)
  have hl2 : ∀ k, LiveOk (sweepTo L k) size := fun k => liveOk_sweep L size hv k
  have HL2 := Lib.hid hl2
  clear hl2
  go_enter Try.func35, Try.ntmps35
  go_wp2_with fail
  go_loopw [11, 4] (fun i v wr => ∃ (k c' cap' : Nat), k ≤ L.length ∧ i = .int .i64 k ∧ RefAt wr c' (sweepTo L k) ∧ Out2 (w.heap.size + 2) wr v (sweptTo L k) ∧
    wr.heap[w.heap.size]? = some (.cells #[.slice (some ⟨c', 0, none⟩) L.length cap', .int .i64 size, .int .i64 hand] 52) ∧
    wr.heap[w.heap.size + 1]? = some (.cells #[.slice none 0 0, .int .i64 0, .int .i64 0] 52) ∧ Only (fun _ => False) w wr) (fun i _ _ => L.length - (intOf i).toNat)
  case atStart => exact ⟨0, c, cap, Nat.zero_le _, rfl, by rw [sweepTo_zero]; exact hr, ⟨World.ownsRow_nil _ _ _ _, by simp [sweptTo]⟩, hb.1, hb.2, ((Only.refl _ _).alloc _).alloc _⟩
  case round =>
    clear hr hb
    obtain ⟨k, c', cap', hk, rfl, r, hout, T, Z, o⟩ := hrel
    obtain ⟨p0, p1, p2, p3, p4, p5⟩ := three T
    have HO := Lib.hid hout
    clear hout
    have hlen := len_swept L k
    by_cases hlt : k < L.length
    · have hR := rrel_any cap' k size hand r (by rw [len_sweepTo]; exact hL) (HL2.out k)
      unfold relL relC at hR
      rw [inR_nat (by rw [len_sweepTo]; exact hlt), len_sweepTo] at hR
      simp only [if_true] at hR
      have e1 : upd (sweepTo L k) (k : Int) relS = sweepTo L (k + 1) := by
        unfold upd
        rw [Int.toNat_natCast, seg_sweepTo L k hlt, sweepTo_succ L k hlt]
      rw [e1, Int.toNat_natCast, seg_sweepTo L k hlt] at hR
      clear e1
      go_wp2_with fail
      refine hR.mono ?_
      rintro e w5 ⟨c5, cap5, rfl, r5, o5⟩
      have T5 := (o5.block w.heap.size (World.block_lt_of_cell? _ _ p0) (fun h => h)).trans T
      have Z5 := (o5.block (w.heap.size + 1) (World.block_lt_of_cell? _ _ (three Z).1) (fun h => h)).trans Z
      clear hR p0 p1 p2 p3 p4 p5
      have osz := World.block_lt_of_cell? _ _ (three Z5).1
      have hn0 : ¬ w.heap.size = w5.heap.size := by simp at osz; omega
      have hn1 : ¬ w5.heap.size = w.heap.size := by simp at osz; omega
      have hw2 : w.heap.size + 1 + 1 ≤ w5.heap.size := by simp at osz; omega
      have own5 := ownsRow_only HO.out.1 o5 (fun x hx => hx.elim)
      have nil5 := HO.out.2
      have NIL := Lib.hid nil5
      have O5 := o.trans o5
      have hnt := r5.ne52 T5
      have r0 := r.onlyF o5
      clear HO nil5 o5 r T Z o
      by_cases hok : relOk (seg L k) = true
      · have hcode : relCode (seg L k) = 0 := (relCode_ok _).2 hok
        have HS := Lib.hid (swept_yes L k hok)
        clear hok
        have T6 := (Below.heap_alloc w5 (.cells #[.slice (some ⟨c5, 0, none⟩) L.length cap5, .int .i64 size, .int .i64 hand] 52) w.heap.size (by omega)).trans T5
        obtain ⟨p0, p1, p2, p3, p4, p5⟩ := three T6
        have own7 := ((ownsRow_setCell_below (ownsRow_setCell_below (ownsRow_setCell_below (own5.alloc (.cells #[.slice (some ⟨c5, 0, none⟩) L.length cap5, .int .i64 size, .int .i64 hand] 52))
          (a := ⟨w.heap.size, 0, none⟩) (by simp) (.slice (some ⟨c5, 0, none⟩) L.length cap5)) (a := ⟨w.heap.size, 1, none⟩) (by simp) (.int .i64 size)) (a := ⟨w.heap.size, 2, none⟩) (by simp) (.int .i64 hand))).alloc (.cells #[.int .i64 k] 3)
        have OW := Lib.hid own7
        clear own7
        go_wp2_with (at_builtin; refine wpList_append_own _ rfl _ _ 44 rfl (w.heap.size + 2) 3 i0 (.int .i64 0) 1 8 Try.underlying44 hi hz0 hz1 hz2 rfl (by decide) _ _ _ rfl OW.out ⟨w5.heap.size + 1, 0, none⟩ 1 1 [.int .i64 k] rfl rfl ?c1 ?c2 ?c3 ?c4 ?c5 ?_)
        case c1 => exact cell_one_at _ _ _ _ (by simp)
        case c2 => intro u hu; simp at hu; subst hu; rfl
        case c3 => unfold maxLen; omega
        case c4 => omega
        case c5 => simp; omega
        intro v' w6 hown6 hgrow hnn
        have hbk := fun x hx => (OW.out.lt x hx).1
        have hT : w6.heap[w.heap.size]? = some (.cells #[.slice (some ⟨c5, 0, none⟩) L.length cap5, .int .i64 size, .int .i64 hand] 52) := by
          rw [hgrow.block w.heap.size (by simp; omega) (fun e => by have := hbk _ e.symm; omega), Below.heap_alloc _ _ _ (by simp; omega)]
          exact three_set T6 _ _ _
        have hZ : w6.heap[w.heap.size + 1]? = some (.cells #[.slice none 0 0, .int .i64 0, .int .i64 0] 52) := by
          rw [hgrow.block (w.heap.size + 1) (by simp; omega) (fun e => by have := hbk _ e.symm; omega), Below.heap_alloc _ _ _ (by simp; omega), three_other (by omega), Below.heap_alloc _ _ _ (by omega)]
          exact Z5
        have hr6 : RefAt w6 c5 (sweepTo L (k + 1)) := by
          have r7 := (((r5.alloc (.cells #[.slice (some ⟨c5, 0, none⟩) L.length cap5, .int .i64 size, .int .i64 hand] 52)).poke (k := w.heap.size) hnt 0 (.slice (some ⟨c5, 0, none⟩) L.length cap5)).poke (k := w.heap.size) hnt 1 (.int .i64 size)).poke (k := w.heap.size) hnt 2 (.int .i64 hand)
          refine (r7.alloc (.cells #[.int .i64 k] 3)).grown hgrow ?_
          intro e
          obtain ⟨cur, h1, _⟩ := r7.alloc (.cells #[.int .i64 k] 3)
          rcases OW.out.2 with ⟨hn, _⟩ | ⟨g, cp, cu, hv', _, hh, _⟩
          · rw [hn] at e; simp [Value.ownBlock] at e
          · rw [hv'] at e
            simp [Value.ownBlock] at e
            subst e
            rw [h1] at hh
            simp at hh
        have hO : Only (fun _ => False) w w6 :=
          ((((((O5.alloc _).setCell (q := ⟨w.heap.size, 0, none⟩) (.inr (Nat.le_refl _)) _).setCell (q := ⟨w.heap.size, 1, none⟩) (.inr (Nat.le_refl _)) _).setCell (q := ⟨w.heap.size, 2, none⟩) (.inr (Nat.le_refl _)) _).alloc _).grown hgrow (fun x hx => by have := hbk x hx; omega))
        have hout : Out2 (w.heap.size + 2) w6 v' (sweptTo L (k + 1)) := by
          rw [HS.out]
          refine ⟨by simpa using hown6, ?_⟩
          constructor
          · intro h; exact absurd h hnn
          · intro h; simp at h
        clear hown6 hgrow hnn hbk OW NIL p0 p1 p2 p3 p4 p5 T6 T5 Z5 O5 r5 own5
        go_wp2_with fail
        go_roundw
        case rel => exact ⟨k + 1, c5, cap5, by omega, by go_num, hr6, hout, hT, hZ, hO⟩
        case measure => simp [intOf]; omega
      · have hok' : relOk (seg L k) = false := by simpa using hok
        have hcode : (relCode (seg L k) == 0) = false := by
          rw [beq_eq_false_iff_ne]; exact fun e => hok ((relCode_ok _).1 e)
        have HS := Lib.hid (swept_no L k hok')
        have e2 : sweepTo L k = sweepTo L (k + 1) := by
          rw [← sweepTo_succ L k hlt]
          have e3 : relS (seg L k) = seg (sweepTo L k) k := by rw [seg_sweepTo L k hlt]; exact if_neg hok
          rw [e3, set_seg]
        rw [e2] at r0
        clear hok hok' e2
        have hout : Out2 (w.heap.size + 2) (w5.alloc (.cells #[.slice (some ⟨c5, 0, none⟩) L.length cap5, .int .i64 size, .int .i64 hand] 52)) u4 (sweptTo L (k + 1)) := by
          rw [HS.out]
          exact ⟨own5.alloc _, NIL.out⟩
        have hr6 := r0.alloc (.cells #[.slice (some ⟨c5, 0, none⟩) L.length cap5, .int .i64 size, .int .i64 hand] 52)
        have hT := (Below.heap_alloc w5 (.cells #[.slice (some ⟨c5, 0, none⟩) L.length cap5, .int .i64 size, .int .i64 hand] 52) w.heap.size (by omega)).trans T5
        have hZ := (Below.heap_alloc w5 (.cells #[.slice (some ⟨c5, 0, none⟩) L.length cap5, .int .i64 size, .int .i64 hand] 52) (w.heap.size + 1) (by omega)).trans Z5
        clear NIL T5 Z5 own5 r5 r0
        go_wp2_with fail
        go_roundw
        case rel => exact ⟨k + 1, c', cap', by omega, by go_num, hr6, hout, hT, hZ, O5.alloc _⟩
        case measure => simp [intOf]; omega
    · obtain rfl : k = L.length := by omega
      rw [sweepTo_all] at r
      obtain ⟨q0, q1, q2, q3, q4, q5⟩ := three Z
      have hs := intSl_out HO.out
      have hn2 := r.ne52 Z
      have hnv : ∀ x, u4.ownBlock = some x → x ≠ w.heap.size + 1 := fun x hx e => by have := (HO.out.1.lt x hx).1; omega
      have HO2 := HO
      have hN := Lib.hid hnv
      have hS := Lib.hid hs
      clear hnv hs HO
      go_wp2_with fail
      refine bodyPost_ret (v := .tuple #[.agg #[.slice (some ⟨c', 0, none⟩) L.length cap', .int .i64 size, .int .i64 hand], u4]) (by simp [results, Try.results35, go_sem, q0, q1, q2]) rfl ⟨c', cap', u4, rfl, ?_, ?_, ?_⟩
      · exact ((r.poke hn2 _ _).poke hn2 _ _).poke hn2 _ _
      · exact intSl_out ⟨ownsRow_setCell_below (ownsRow_setCell_below (ownsRow_setCell_below HO2.out.1 (a := ⟨w.heap.size + 1, 0, none⟩) (by simp) _) (a := ⟨w.heap.size + 1, 1, none⟩) (by simp) _) (a := ⟨w.heap.size + 1, 2, none⟩) (by simp) _, HO2.out.2⟩
      · exact ((o.setCell (q := ⟨w.heap.size + 1, 0, none⟩) (.inr (Nat.le_succ _)) _).setCell (q := ⟨w.heap.size + 1, 1, none⟩) (.inr (Nat.le_succ _)) _).setCell (q := ⟨w.heap.size + 1, 2, none⟩) (.inr (Nat.le_succ _)) _
end
end Go.Proofs.Ytfjkdkkljfgboaa
