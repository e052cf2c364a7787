/-
  The walk of the law UsageOnce: it answers true and writes nothing that was there. Condition: the argument's cells hold numbers.
-/
import Derived.Test.YtfjkdkkljfgboaaOnceL
import Derived.Test.YtfjkdkkljfgboaaSumsW
namespace Go.Proofs.Ytfjkdkkljfgboaa
open Go.RowKit
set_option linter.unusedVariables false

theorem run_outs (w : World) (n : Nat) (h : n ≤ 512) : (Instr.makeSlice 44 (.int .i64 n) (.int .i64 n)).run Try.prog w =
    .ok (.slice (some ⟨w.heap.size, 0, none⟩) n n) (w.alloc (.cells ((List.range n).map (fun _ => Value.int .i64 0)).toArray 3)) := by
  obtain ⟨i0, hi, hz0, hz1, hz2⟩ := info_parts Try.info3
  have := run_make (P := Try.prog) w 44 3 i0 _ Try.underlying44 hi hz0 .i64 .i64 (n : Int) (n : Int) (by omega) (by omega) (by rw [hz2]; omega) (by omega)
  rw [hz1] at this
  simp only [Value.cells, Int.toNat_natCast, Nat.mul_one] at this
  rw [this]
  congr 3
  apply Array.ext
  · simp [madeCells]
  · intro i h1 h2
    simp [madeCells, Nat.mod_one]

theorem once_seg (x : Int) (n : Nat) (hn : 0 < n) (hn2 : n ≤ 512) : ∃ m : Nat, m < n ∧ wrap64 ((IntKind.u64.wrap x).tmod n) = m := by
  obtain ⟨m, hm, e⟩ := u64_mod' x n hn
  exact ⟨m, hm, (congrArg wrap64 e).trans (IntWalk.wrap64_in (m : Int) (by omega))⟩

/-- What the loop keeps. -/
structure Onc (w wr : World) (p c g n : Nat) (L : List Inf) (hand : Int) : Prop where
  t : Tab wr p c L 8 hand
  out : OutF wr g n (fO L)
  only : Only (fresh w.heap.size) w wr
  inv : Inv L 8 hand
  act : Act1 L hand
  len : L.length = n

theorem Onc.alloc {w wr : World} {p c g n : Nat} {L : List Inf} {hand : Int} (h : Onc w wr p c g n L hand) (o : Obj) : Onc w (wr.alloc o) p c g n L hand :=
  ⟨h.t.alloc o, h.out.of (Below.heap_alloc _ _ _ h.out.lt), h.only.alloc o, h.inv, h.act, h.len⟩
theorem Onc.later {w wr wx : World} {p c g n : Nat} {L : List Inf} {hand : Int} (h : Onc w wr p c g n L hand) (o : Only (fun _ => False) wr wx) : Onc w wx p c g n L hand :=
  ⟨h.t.onlyF o, h.out.of (o.block g h.out.lt (fun x => x)), h.only.trans (o.mono fun _ _ h => h.elim), h.inv, h.act, h.len⟩

theorem Onc.step {w wr w' : World} {p c g n : Nat} {L L' : List Inf} {hand : Int} (h : Onc w wr p c g n L hand) (o : Only (Two p c) wr w') (t : Tab w' p c L' 8 hand)
    (hp : w.heap.size ≤ p) (hc : w.heap.size ≤ c) (hI : Inv L' 8 hand) (hA : Act1 L' hand) (hl : L'.length = n) (hf : ∀ i, i < n → fO L i = fO L' i) : Onc w w' p c g n L' hand :=
  ⟨t, (h.out.of (o.block g h.out.lt (fun x => by have := h.t.ne_out h.out (.inr trivial); rcases x with x | x <;> omega))).congr hf, h.only.fresh o hp hc, hI, hA, hl⟩
theorem Onc.poke {w w4 : World} {p c g n : Nat} {L L' : List Inf} {hand' : Int} (o : Only (fresh w.heap.size) w w4) (t : Tab w4 p c L' 8 hand') (out : OutF w4 g n (fO L)) (hg : w.heap.size ≤ g) {j : Nat} (hj : j < n) (x : Int)
    (hI : Inv L' 8 hand') (hA : Act1 L' hand') (hl : L'.length = n) (hf : ∀ i, i < n → (if i = j then x else fO L i) = fO L' i) : Onc w (w4.setCell ⟨g, j, none⟩ (.int .i64 x)) p c g n L' hand' :=
  have hne := t.ne_out out (.inr trivial)
  ⟨t.of (Below.heap_setCell _ _ _ _ (fun e => hne.1 e.symm)) (Below.heap_setCell _ _ _ _ (fun e => hne.2 e.symm)), (out.set j hj x).congr hf, o.setCell (q := ⟨g, j, none⟩) (.inl hg) _, hI, hA, hl⟩
theorem takeM_none {L : List Inf} {size hand : Int} (hM : takeM L hand = none) (h : Inv L size hand) : countL L 0 = 0 := by
  refine countL_zero L 0 fun i hi => ?_
  have hb : ∀ k, k < L.length → (seg L (spotOf L.length hand k)).state ≠ 0 := by
    intro k hk
    have := List.find?_eq_none.1 hM k (by simpa using hk)
    simpa using this
  -- every place is the spot of some round
  obtain ⟨r, hr, e⟩ : ∃ r, r < L.length ∧ spotOf L.length hand r = i := by
    unfold spotOf
    have h1 := h.lo
    have h2 := h.hi
    have h3 := h.pos
    by_cases hle : (hand + 1).toNat ≤ i
    · exact ⟨i - (hand + 1).toNat, by omega, by rw [show (hand + 1).toNat + (i - (hand + 1).toNat) = i from by omega]; exact Nat.mod_eq_of_lt hi⟩
    · refine ⟨i + L.length - (hand + 1).toNat, by omega, ?_⟩
      rw [show (hand + 1).toNat + (i + L.length - (hand + 1).toNat) = i + L.length from by omega, Nat.add_mod_right]
      exact Nat.mod_eq_of_lt hi
  rw [← e]
  exact hb r hr
theorem takeM_some {L : List Inf} {size hand : Int} {q : Nat} (hM : takeM L hand = some q) (h : Inv L size hand) : spotOf L.length hand q < L.length ∧ (seg L (spotOf L.length hand q)).state = 0 := by
  refine ⟨Nat.mod_lt _ h.pos, ?_⟩
  have := List.find?_some hM
  simpa using this
theorem fO_seize {L : List Inf} {size hand : Int} (h : Inv L size hand) (ha : Act1 L hand) (j : Nat) (hj : j < L.length) (i : Nat) (hi : i < L.length) : (if i = j then (1 : Int) else fO L i) = fO (seizeL L hand j) i := by
  unfold fO
  rw [seg_seize h ha j hj i hi]
  by_cases e : i = j
  · subst e; simp
  · have e' : ¬ j = i := fun x => e x.symm
    rw [if_neg e, if_neg e']
    by_cases e2 : hand = i
    · rw [if_pos e2, (ha.act i hi).2 e2]; simp
    · rw [if_neg e2]

theorem fO_use (L : List Inf) (j : Nat) (hj : j < L.length) (i : Nat) (hi : i < L.length) : (if i = j then (1 : Int) else fO L i) = fO (L.set j { seg L j with state := 1 }) i := by
  unfold fO
  rw [seg_set _ _ _ _ hj]
  by_cases e : i = j
  · subst e; simp
  · have e' : ¬ j = i := fun x => e x.symm
    rw [if_neg e, if_neg e']
theorem fSw_zero (L : List Inf) (i : Nat) : fSw L 0 i = fO L i := if_neg (fun ⟨x, hx, _⟩ => by omega)
theorem fSw_at (L : List Inf) (j s : Nat) (h3 : relOk (seg L s) = true) (h4 : ∀ i, i < j → (sweptTo L L.length).getD i 0 ≠ s) : fSw L j s = 1 := by
  unfold fSw
  rw [if_neg (fun ⟨x, hx, e⟩ => h4 x hx e)]
  exact if_neg (relOk_ne _ h3).1
theorem fSw_step (L : List Inf) (j s : Nat) (h1 : (sweptTo L L.length).getD j 0 = s) (i : Nat) : (if i = s then (0 : Int) else fSw L j i) = fSw L (j + 1) i := by
  unfold fSw
  by_cases e : i = s
  · rw [if_pos e, if_pos ⟨j, by omega, by rw [h1, e]⟩]
  · rw [if_neg e]
    by_cases h : ∃ x, x < j ∧ (sweptTo L L.length).getD x 0 = i
    · obtain ⟨x, hx, hxe⟩ := h
      rw [if_pos ⟨x, hx, hxe⟩, if_pos ⟨x, by omega, hxe⟩]
    · rw [if_neg h, if_neg]
      rintro ⟨x, hx, hxe⟩
      by_cases hxj : x = j
      · subst hxj; rw [h1] at hxe; exact e (by omega)
      · exact h ⟨x, by omega, hxe⟩
theorem fSw_all (L : List Inf) (i : Nat) (hi : i < L.length) : fSw L (sweptTo L L.length).length i = fO (L.map relS) i := by
  unfold fSw fO
  rw [seg_map L i hi, relS_state]
  by_cases hr : relOk (seg L i) = true
  · obtain ⟨j, hj, e⟩ := mem_swept L i hi hr
    rw [if_pos ⟨j, hj, e⟩, if_pos hr, if_pos rfl]
  · rw [if_neg hr, if_neg]
    rintro ⟨x, hx, hxe⟩
    obtain ⟨s, h1, _, h3, _⟩ := swept_mem L x hx
    rw [h1] at hxe
    obtain rfl : s = i := by omega
    exact hr h3
theorem fO_rel (L : List Inf) (j : Nat) (hj : j < L.length) (hok : relOk (seg L j) = true) (i : Nat) (hi : i < L.length) : (if i = j then (0 : Int) else fO L i) = fO (L.set j (relS (seg L j))) i := by
  unfold fO
  rw [seg_set _ _ _ _ hj]
  by_cases e : i = j
  · subst e; rw [if_pos rfl, if_pos rfl, relS_state, if_pos hok, if_pos rfl]
  · have e' : ¬ j = i := fun x => e x.symm
    rw [if_neg e, if_neg e']

set_option maxRecDepth 100000 in
set_option maxHeartbeats 4000000 in
theorem once_walk (a0 : Int) (a : Option Addr) (len cap : Nat) (w : World) (hl : len ≤ maxLen) (hrows : IntRows w a len 3) :
    Calls Try.prog 5 #[.int .i64 a0, .slice a len cap] w fun e w' => e = .returned (.bool true) ∧ Only (fun _ => False) w w' := by
  unfold maxLen at hl
  obtain ⟨n, hn1, hn2, hseg⟩ : ∃ n : Nat, 1 ≤ n ∧ n ≤ 20 ∧ wrap64 (wrap64 ((IntKind.u64.wrap a0).tmod 20) + 1) = n := by
    obtain ⟨m, hm, e⟩ := u64_mod' a0 20 (by omega)
    refine ⟨m + 1, by omega, by omega, ?_⟩
    have e' : (IntKind.u64.wrap a0).tmod 20 = m := e
    rw [e', IntWalk.wrap64_in (m : Int) (by omega), IntWalk.wrap64_in _ (by omega)]; omega
  have HR := Lib.hid hrows
  have hmk := fun w => run_outs w n (by omega)
  have hne : ((n : Int) == 0) = false := beq_eq_false_iff_ne.2 (by omega)
  clear hrows
  go_enter Try.func5, Try.ntmps5
  go_wp2_with fail
  refine (awake_any w).mono ?_
  rintro e w1 ⟨rfl, o1⟩
  go_wp2_with fail
  refine (new_tab n 8 w1 (by omega) (by omega) (by omega) (by omega)).mono ?_
  rintro e w2 ⟨rfl, t2, o2⟩
  generalize hp : w1.heap.size + 1 = p at t2 ⊢
  generalize hc : w1.heap.size = c at t2 ⊢
  have o3 : Only (fresh w.heap.size) w w2 := (o1.mono fun _ _ h => h.elim).trans (o2.mono fun _ _ h => h.elim)
  have hpw : w.heap.size ≤ p := by have := o1.size; omega
  have hcw : w.heap.size ≤ c := by have := o1.size; omega
  clear hp hc o2
  go_wp2_with fail
  have t3 := t2.alloc (.cells ((List.range n).map (fun _ => Value.int .i64 0)).toArray 3)
  have b3 : OutF (w2.alloc (.cells ((List.range n).map (fun _ => Value.int .i64 0)).toArray 3)) w2.heap.size n (fO (List.replicate n Inf.zero)) :=
    OutF.congr (f := fun _ => 0) (heap_alloc_new _ _) (fun i _ => by unfold fO; rw [seg_rep0]; rfl)
  have o4 := o3.alloc (.cells ((List.range n).map (fun _ => Value.int .i64 0)).toArray 3)
  have hqw : w.heap.size ≤ w2.heap.size := o3.size
  have inv0 := inv_new n 8 hn1 (by omega) (by omega) (by omega)
  have O3 : Onc w (w2.alloc (.cells ((List.range n).map (fun _ => Value.int .i64 0)).toArray 3)) p c w2.heap.size n (List.replicate n Inf.zero) (-1) :=
    ⟨t3, b3, o4, inv0, act_new n, by simp⟩
  generalize w2.alloc (.cells ((List.range n).map (fun _ => Value.int .i64 0)).toArray 3) = w3 at O3 ⊢
  generalize w2.heap.size = g at O3 hqw ⊢
  clear t2 t3 b3 o4 inv0 o3 hmk
  go_loopw [9, 8] (fun i l wr => ∃ (k : Nat) (L : List Inf) (hand : Int), k ≤ 100 ∧ k ≤ len ∧ i = .int .i64 k ∧ l = .int .i64 hand ∧ Onc w wr p c g n L hand) (fun i _ _ => 100 - (intOf i).toNat)
  case atStart => exact ⟨0, _, _, Nat.zero_le _, Nat.zero_le _, rfl, rfl, O3⟩
  case round =>
    clear O3
    obtain ⟨k, L, hand, hk1, hk2, rfl, rfl, O⟩ := hrel
    by_cases hlt : k < len ∧ k < 100
    · obtain ⟨hlt1, hlt2⟩ := hlt
      obtain ⟨b, off, ha, f, hf⟩ := (HR.out.later (by omega) O.only (fun k hk h => absurd hk (Nat.not_lt.2 h))) k hlt1
      subst ha
      have c0 : wr.cell? ⟨b, off + k * 3, none⟩ = some (.int .i64 (f 0)) := hf 0 (by omega)
      have c1 : wr.cell? ⟨b, off + k * 3 + 1, none⟩ = some (.int .i64 (f 1)) := hf 1 (by omega)
      have c2 : wr.cell? ⟨b, off + k * 3 + 2, none⟩ = some (.int .i64 (f 2)) := hf 2 (by omega)
      clear hf
      obtain ⟨m, hm, em⟩ := once_seg (f 1) n hn1 (by omega)
      have hw1 : IntKind.u64.wrap (n : Int) = n := IntWalk.u64_in _ (by omega)
      generalize f 1 = x at c1 em
      generalize f 2 = y at c2
      generalize f 0 = kind at c0
      -- the local copy of the op
      have O1 := O.alloc (.cells #[.int .i64 kind, .int .i64 m, .int .i64 y] 46)
      have l0 : (wr.alloc (.cells #[.int .i64 kind, .int .i64 m, .int .i64 y] 46)).cell? ⟨wr.heap.size, 0, none⟩ = some (.int .i64 kind) := by simp
      have l1 : (wr.alloc (.cells #[.int .i64 kind, .int .i64 m, .int .i64 y] 46)).cell? ⟨wr.heap.size, 1, none⟩ = some (.int .i64 m) := by simp
      have l2 : (wr.alloc (.cells #[.int .i64 kind, .int .i64 m, .int .i64 y] 46)).cell? ⟨wr.heap.size, 2, none⟩ = some (.int .i64 y) := by simp
      have hplt := O.t.plt
      have hclt := O.t.clt
      by_cases k1 : kind = 1
      · subst k1
        have hA := add_any m y O1.t O.inv
        go_wp2_with fail
        refine hA.mono ?_
        rintro e w4 ⟨rfl, t4, o4⟩
        have T : Onc w w4 p c g n (addL L 8 m y) hand := O1.step o4 t4 hpw hcw (inv_add O.inv _ _) (act_add O.act _ _ _) (by rw [len_addL]; exact O.len) (fun i hi => by unfold fO; rw [addL_state])
        clear hA l0 l1 l2 c0 c1 c2 o4 t4
        have hC := count_any 2 T.t T.inv.len
        rw [count_act T.act T.inv.hi] at hC
        go_wp2_with fail
        refine hC.mono ?_
        rintro e wz ⟨rfl, oz⟩
        clear hC
        have hat := actN_test hand
        go_wp2_with fail
        go_roundw
        case rel => exact ⟨k + 1, _, _, by omega, by omega, by go_num, rfl, T.later oz⟩
        case measure => simp [intOf]; omega
      by_cases k3 : kind = 3
      · subst k3
        have hT := take_any O1.t O.inv
        unfold takeS takeC takeL takeH at hT
        cases hM : takeM L hand with
        | none =>
          rw [hM] at hT
          simp only at hT
          have hz : Inv L 8 hand → countL L 0 = 0 := takeM_none hM
          clear hM
          go_wp2_with fail
          refine hT.mono ?_
          rintro e w4 ⟨rfl, t4, o4⟩
          have T : Onc w w4 p c g n L hand := O1.step o4 t4 hpw hcw O.inv O.act O.len (fun _ _ => rfl)
          have hZ := count_any 0 T.t T.inv.len
          rw [hz O.inv] at hZ
          clear hT l0 l1 l2 c0 c1 c2 o4 t4 hz
          go_wp2_with fail
          refine hZ.mono ?_
          rintro e wy ⟨rfl, oy⟩
          replace T := T.later oy
          clear hZ
          have hC := count_any 2 T.t T.inv.len
          rw [count_act T.act T.inv.hi] at hC
          go_wp2_with fail
          refine hC.mono ?_
          rintro e wz ⟨rfl, oz⟩
          clear hC
          have hat := actN_test hand
          go_wp2_with fail
          go_roundw
          case rel => exact ⟨k + 1, _, _, by omega, by omega, by go_num, rfl, T.later oz⟩
          case measure => simp [intOf]; omega
        | some q =>
          rw [hM] at hT
          simp only at hT
          obtain ⟨hj, hj0⟩ := takeM_some hM O.inv
          generalize spotOf L.length hand q = j at hT hj hj0
          clear hM
          go_wp2_with fail
          refine hT.mono ?_
          rintro e w4 ⟨rfl, t4, o4⟩
          have out4 : OutF w4 g n (fO L) := O1.out.of (o4.block g O1.out.lt (fun h => by have := O1.t.ne_out O1.out (.inr trivial); rcases h with h | h <;> omega))
          have hjn : j < n := by rw [← O.len]; exact hj
          have cj := out4.cell j hjn
          have fj := out4.free j
          have ef : fO L j = 0 := by unfold fO; rw [if_pos hj0]
          rw [ef] at cj
          have T : Onc w (w4.setCell ⟨g, j, none⟩ (.int .i64 1)) p c g n (seizeL L hand j) j :=
            Onc.poke (O1.only.fresh o4 hpw hcw) t4 out4 hqw hjn 1 (inv_seize O.inv O.act j hj) (act_seize O.inv O.act j hj) (by rw [len_seize]; exact O.len)
              (fun i hi => fO_seize O.inv O.act j hj i (by rw [O.len]; exact hi))
          clear hT l0 l1 l2 c0 c1 c2 o4 t4 ef
          have hC := count_any 2 T.t T.inv.len
          rw [count_act T.act T.inv.hi] at hC
          go_wp2_with fail
          refine hC.mono ?_
          rintro e wz ⟨rfl, oz⟩
          clear hC
          have hat := actN_test (j : Int)
          go_wp2_with fail
          go_roundw
          case rel => exact ⟨k + 1, _, _, by omega, by omega, by go_num, rfl, T.later oz⟩
          case measure => simp [intOf]; omega
      by_cases k4 : kind = 4
      · subst k4
        have hU := use_any m O1.t
        unfold useC useL at hU
        rw [inR_nat (by rw [O.len]; exact hm)] at hU
        by_cases h0 : (seg L m).state = 0
        · rw [decide_eq_true (show (seg L (m : Int).toNat).state = 0 from h0)] at hU
          simp only [if_true, Bool.and_self] at hU
          rw [if_pos (show (seg L (m : Int).toNat).state = 0 from h0)] at hU
          have hi2 := inv_use O.inv m (by rw [O.len]; exact hm)
          have ha2 := act_use O.act m (by rw [O.len]; exact hm) h0
          have hf2 := fO_use L m (by rw [O.len]; exact hm)
          clear h0
          go_wp2_with fail
          refine hU.mono ?_
          rintro e w4 ⟨rfl, t4, o4⟩
          have out4 : OutF w4 g n (fO L) := O1.out.of (o4.block g O1.out.lt (fun h => by have := O1.t.ne_out O1.out (.inr trivial); rcases h with h | h <;> omega))
          have fj := out4.free m
          have cj := out4.cell m hm
          have l4 := (World.cell?_of_block (a := ⟨wr.heap.size, 1, none⟩) (o4.block wr.heap.size (by simp) (fun h => by rcases h with h | h <;> omega))).trans l1
          have T : Onc w (w4.setCell ⟨g, m, none⟩ (.int .i64 1)) p c g n (L.set m { seg L m with state := 1 }) hand :=
            Onc.poke (O1.only.fresh o4 hpw hcw) t4 out4 hqw hm 1 hi2 ha2 (by show (L.set m { seg L m with state := 1 }).length = n; rw [List.length_set]; exact O.len) (fun i hi => hf2 i (by rw [O.len]; exact hi))
          clear hU l0 l1 l2 c0 c1 c2 o4 t4 hi2 ha2 hf2
          have hC := count_any 2 T.t T.inv.len
          rw [count_act T.act T.inv.hi] at hC
          go_wp2_with fail
          refine hC.mono ?_
          rintro e wz ⟨rfl, oz⟩
          clear hC
          have hat := actN_test hand
          go_wp2_with fail
          go_roundw
          case rel => exact ⟨k + 1, _, _, by omega, by omega, by go_num, rfl, T.later oz⟩
          case measure => simp [intOf]; omega
        · rw [decide_eq_false (show ¬ (seg L (m : Int).toNat).state = 0 from h0)] at hU
          simp only [if_true, Bool.and_false] at hU
          rw [if_neg (show ¬ (seg L (m : Int).toNat).state = 0 from h0)] at hU
          simp only [Bool.false_eq_true, if_false] at hU
          clear h0
          go_wp2_with fail
          refine hU.mono ?_
          rintro e w4 ⟨rfl, t4, o4⟩
          have T : Onc w w4 p c g n L hand := O1.step o4 t4 hpw hcw O.inv O.act O.len (fun _ _ => rfl)
          clear hU l0 l1 l2 c0 c1 c2 o4 t4
          have hC := count_any 2 T.t T.inv.len
          rw [count_act T.act T.inv.hi] at hC
          go_wp2_with fail
          refine hC.mono ?_
          rintro e wz ⟨rfl, oz⟩
          clear hC
          have hat := actN_test hand
          go_wp2_with fail
          go_roundw
          case rel => exact ⟨k + 1, _, _, by omega, by omega, by go_num, rfl, T.later oz⟩
          case measure => simp [intOf]; omega
      by_cases k5 : kind = 5
      · subst k5
        have hR := release_any m O1.t (by rw [O.len]; exact hm)
        have hi2 := inv_rel O.inv m (by rw [O.len]; exact hm)
        have ha2 := act_rel O.act m (by rw [O.len]; exact hm)
        by_cases hok : relOk (seg L m) = true
        · have hcode : relCode (seg L m) = 0 := (relCode_ok _).2 hok
          rw [hcode] at hR
          have hf2 := fO_rel L m (by rw [O.len]; exact hm) hok
          have hnh : ((m : Int) == hand) = false := by
            rw [beq_eq_false_iff_ne]
            intro e
            exact (relOk_ne _ hok).2 ((O.act.act m (by rw [O.len]; exact hm)).2 e.symm)
          clear hok hcode
          go_wp2_with fail
          refine hR.mono ?_
          rintro e w4 ⟨rfl, t4, o4⟩
          have out4 : OutF w4 g n (fO L) := O1.out.of (o4.block g O1.out.lt (fun h => by have := O1.t.ne_out O1.out (.inr trivial); rcases h with h | h <;> omega))
          have fj := out4.free m
          have cj := out4.cell m hm
          have l4 := (World.cell?_of_block (a := ⟨wr.heap.size, 1, none⟩) (o4.block wr.heap.size (by simp) (fun h => by rcases h with h | h <;> omega))).trans l1
          have T : Onc w (w4.setCell ⟨g, m, none⟩ (.int .i64 0)) p c g n (L.set m (relS (seg L m))) hand :=
            Onc.poke (O1.only.fresh o4 hpw hcw) t4 out4 hqw hm 0 hi2 ha2 (by rw [List.length_set]; exact O.len) (fun i hi => hf2 i (by rw [O.len]; exact hi))
          clear hR l0 l1 l2 c0 c1 c2 o4 t4 hi2 ha2 hf2
          have hC := count_any 2 T.t T.inv.len
          rw [count_act T.act T.inv.hi] at hC
          go_wp2_with fail
          refine hC.mono ?_
          rintro e wz ⟨rfl, oz⟩
          clear hC
          have hat := actN_test hand
          go_wp2_with fail
          go_roundw
          case rel => exact ⟨k + 1, _, _, by omega, by omega, by go_num, rfl, T.later oz⟩
          case measure => simp [intOf]; omega
        · have hcode : (relCode (seg L m) == 0) = false := by
            rw [beq_eq_false_iff_ne]; exact fun e => hok ((relCode_ok _).1 e)
          have e1 : relS (seg L m) = seg L m := if_neg hok
          rw [e1, set_seg] at hR
          clear hok e1 hi2 ha2
          go_wp2_with fail
          refine hR.mono ?_
          rintro e w4 ⟨rfl, t4, o4⟩
          have T : Onc w w4 p c g n L hand := O1.step o4 t4 hpw hcw O.inv O.act O.len (fun _ _ => rfl)
          clear hR l0 l1 l2 c0 c1 c2 o4 t4
          have hC := count_any 2 T.t T.inv.len
          rw [count_act T.act T.inv.hi] at hC
          go_wp2_with fail
          refine hC.mono ?_
          rintro e wz ⟨rfl, oz⟩
          clear hC
          have hat := actN_test hand
          go_wp2_with fail
          go_roundw
          case rel => exact ⟨k + 1, _, _, by omega, by omega, by go_num, rfl, T.later oz⟩
          case measure => simp [intOf]; omega
      by_cases k6 : kind = 6
      · subst k6
        have hS := sweep_any O1.t O.inv.len
        go_wp2_with fail
        refine hS.mono ?_
        rintro e w4 ⟨v, rfl, hIn, t4, o4⟩
        obtain ⟨al, rfl, hel⟩ := hIn.open_
        have hlen := len_swept L L.length
        have hLn := O.len
        have hel' := Lib.hid hel
        have out4 : OutF w4 g n (fSw L 0) := (O1.out.of (o4.block g O1.out.lt (fun h => by have := O1.t.ne_out O1.out (.inr trivial); rcases h with h | h <;> omega))).congr (fun i _ => (fSw_zero L i).symm)
        have hgB := O1.out.lt
        have oo := O1.only.fresh o4 hpw hcw
        have hsz : (wr.alloc (.cells #[.int .i64 6, .int .i64 m, .int .i64 y] 46)).heap.size = (wr.alloc (.cells #[.int .i64 6, .int .i64 m, .int .i64 y] 46)).heap.size := rfl
        generalize (wr.alloc (.cells #[.int .i64 6, .int .i64 m, .int .i64 y] 46)).heap.size = B at hel' hel hgB
        clear hS l0 l1 l2 c0 c1 c2 hIn hel hsz o4
        have hne4 := t4.ne_out out4 (.inr trivial)
        have hsw := fun j hj => swept_mem L j hj
        have HSW := Lib.hid hsw
        clear hsw
        generalize hll : (sweptTo L L.length).length = ll at hel' hlen HSW ⊢
        go_wp2_with fail
        go_loopw [128] (fun i wx => ∃ j : Nat, j ≤ ll ∧ i = .int .i64 j ∧ OutF wx g n (fSw L j) ∧ Only (fun x => x = g) w4 wx) (fun i _ => ll - (intOf i).toNat)
        case atStart => exact ⟨0, by omega, rfl, out4, Only.refl _ _⟩
        case round =>
          clear out4
          obtain ⟨j, hj, rfl, outx, ox⟩ := hrel
          by_cases hlt : j < ll
          · obtain ⟨gl, hal, hgl, hcl⟩ := hel'.out j hlt
            subst hal
            obtain ⟨s, hs1, hs2, hs3, hs4⟩ := HSW.out j hlt
            rw [hs1] at hcl
            have hcl' := (World.cell?_of_block (a := ⟨gl, j, none⟩) (ox.block gl (World.block_lt_of_cell? _ _ hcl) (fun e => by omega))).trans hcl
            have hfs := fSw_at L j s hs3 hs4
            have hstep := fSw_step L j s hs1
            have hnh : ((s : Int) == hand) = false := by
              rw [beq_eq_false_iff_ne]
              intro e
              exact (relOk_ne _ hs3).2 ((O.act.act s hs2).2 e.symm)
            have hsn : s < n := by omega
            have cs := outx.cell s hsn
            have fs := outx.free s
            rw [hfs] at cs
            have outy := (outx.set s hsn 0).congr (fun i _ => hstep i)
            have HF := Lib.hid outy
            clear hcl hs1 hs3 hs4 hfs hstep outy
            go_wp2_with fail
            go_roundw
            case rel => exact ⟨j + 1, by omega, by go_num, HF.out, ox.setCell (q := ⟨g, s, none⟩) (.inl rfl) _⟩
            case measure => simp [intOf]; omega
          · obtain rfl : j = ll := by omega
            have T : Onc w _ p c g n (L.map relS) hand :=
              ⟨t4.of (ox.block p t4.plt (fun e => hne4.1 e.symm)) (ox.block c t4.clt (fun e => hne4.2 e.symm)),
                outx.congr (fun i hi => by rw [← hll]; exact fSw_all L i (by omega)), oo.trans (ox.mono fun x hx e => by subst e; exact hqw), inv_sweep O.inv, act_sweep O.act, by rw [List.length_map]; exact O.len⟩
            clear hll HSW hel' outx ox
            have hC := count_any 2 T.t T.inv.len
            rw [count_act T.act T.inv.hi] at hC
            go_wp2_with fail
            refine hC.mono ?_
            rintro e wz ⟨rfl, oz⟩
            clear hC
            have hat := actN_test hand
            go_wp2_with fail
            go_roundw
            case rel => exact ⟨k + 1, _, _, by omega, by omega, by go_num, rfl, T.later oz⟩
            case measure => simp [intOf]; omega
      · have b1 : (kind == 1) = false := beq_eq_false_iff_ne.2 k1
        have b3 : (kind == 3) = false := beq_eq_false_iff_ne.2 k3
        have b4 : (kind == 4) = false := beq_eq_false_iff_ne.2 k4
        have b5 : (kind == 5) = false := beq_eq_false_iff_ne.2 k5
        have b6 : (kind == 6) = false := beq_eq_false_iff_ne.2 k6
        clear k1 k3 k4 k5 k6
        have T := O1
        have hC := count_any 2 T.t T.inv.len
        rw [count_act T.act T.inv.hi] at hC
        go_wp2_with fail
        refine hC.mono ?_
        rintro e wz ⟨rfl, oz⟩
        clear hC
        have hat := actN_test hand
        go_wp2_with fail
        go_roundw
        case rel => exact ⟨k + 1, _, _, by omega, by omega, by go_num, rfl, T.later oz⟩
        case measure => simp [intOf]; omega
    · go_wp2_with fail
      all_goals
        go_ret
        exact ⟨rfl, O.only.mono fun k hk h => absurd hk (Nat.not_lt.2 h)⟩
end Go.Proofs.Ytfjkdkkljfgboaa
