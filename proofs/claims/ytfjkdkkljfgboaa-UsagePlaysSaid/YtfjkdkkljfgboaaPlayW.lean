/-
  The walk of the law's helper Play: one call on the program's table and on the document's, the answers alike. Conditions: the tables' facts.
-/
import Derived.Test.YtfjkdkkljfgboaaRef6
namespace Go.Proofs.Ytfjkdkkljfgboaa
open Go.RowKit
set_option linter.unusedVariables false

def playF (size kind i n : Int) (S : St) : St := if kind = 6 then ⟨S.L.map relS, S.hand⟩ else playS size kind i n S
theorem good_playF {S : St} {size : Int} {n : Nat} (h : Good S size n) (kind i m : Int) : Good (playF size kind i m S) size n := by
  unfold playF
  split
  · exact ⟨inv_sweep h.inv, act_sweep h.act, by show (S.L.map relS).length = n; rw [List.length_map]; exact h.len⟩
  · exact good_play h kind i m

theorem refH_nat (n j : Nat) : refH n (j : Int) = j := by unfold refH; rw [if_neg (by omega)]

section
variable {w : World} {c : Nat} {L : List Inf}
theorem rtake_any (cap : Nat) (size hand : Int) (ht : RefAt w c L) (hI : Inv L size hand) (hA : Act1 L hand) :
    Calls Try.prog 32 #[.agg #[.slice (some ⟨c, 0, none⟩) L.length cap, .int .i64 size, .int .i64 (refH L.length hand)]] w
      (RefTk w (takeL L hand) L.length size (refH L.length (takeH L hand)) (takeS L hand) (takeC L hand)) := by
  cases hM : takeM L hand with
  | none =>
    have hb : ∀ k, k < L.length → (seg L (spotOf L.length hand k)).state ≠ 0 := by
      intro k hk
      have := List.find?_eq_none.1 hM k (by simpa using hk)
      simpa using this
    unfold takeL takeH takeS takeC
    rw [hM]
    exact rtake_full cap size hand ht hI.len hI.pos hI.lo hI.hi hb
  | some m =>
    obtain ⟨h1, xs, bs, heq, hno⟩ := List.find?_eq_some_iff_append.1 hM
    have hmem : m ∈ List.range L.length := by rw [heq]; simp
    have hlt : m < L.length := by simpa using hmem
    have hbusy : ∀ k, k < m → (seg L (spotOf L.length hand k)).state ≠ 0 := by
      intro k hk
      have has : xs = List.range m := by
        have hl : xs.length = m := by
          have h2 : (List.range L.length)[xs.length]? = some m := by rw [heq]; simp
          rw [List.getElem?_range (by have := congrArg List.length heq; simp at this; omega)] at h2
          simpa using h2
        have h3 : (List.range L.length).take xs.length = xs := by rw [heq]; simp
        rw [hl, List.take_range, Nat.min_eq_left (by omega)] at h3
        exact h3.symm
      have := hno k (by rw [has]; simpa using hk)
      simpa using this
    have h := rtake_ok cap m size hand ht hI.len hI.lo hI.hi hlt hbusy (by simpa using h1)
    rw [dem_seize hI hA _ (spot_lt hI m)] at h
    unfold takeL takeH takeS takeC
    rw [hM]
    simp only [refH_nat]
    exact h
theorem rsei_any (cap : Nat) (i size hand : Int) (ht : RefAt w c L) (hI : Inv L size hand) (hA : Act1 L hand) :
    Calls Try.prog 37 #[.agg #[.slice (some ⟨c, 0, none⟩) L.length cap, .int .i64 size, .int .i64 (refH L.length hand)], .int .i64 i] w
      (RefRes w (seizeLA L hand i) L.length size (refH L.length (seizeH L hand i)) (seizeC L i)) := by
  unfold seizeLA seizeH seizeC
  cases hR : inR L i with
  | false => exact rseize_out cap i size (refH L.length hand) ht hR
  | true =>
    obtain ⟨j, rfl, hj⟩ := inR_yes hR
    have h := rseize_in cap j size (refH L.length hand) ht hj hI.len
    rw [dem_seize hI hA j hj] at h
    simp only [if_true, Int.toNat_natCast, refH_nat]
    exact h

theorem IntsAt.sl {B : Nat} {v : Value} {l : List Int} (h : IntsAt w B v l) : IntSl w v l := by
  obtain ⟨a, rfl, hc⟩ := h.open_
  exact ⟨a, _, rfl, fun j hj => let ⟨g, h1, _, h2⟩ := hc j hj; ⟨g, h1, h2⟩⟩
theorem IntSl.onlyF {w' : World} {v : Value} {l : List Int} (h : IntSl w v l) (o : Only (fun _ => False) w w') : IntSl w' v l := by
  obtain ⟨a, cap, rfl, hc⟩ := h
  refine ⟨a, cap, rfl, fun j hj => ?_⟩
  obtain ⟨g, h1, h2⟩ := hc j hj
  exact ⟨g, h1, (World.cell?_of_block (a := ⟨g, j, none⟩) (o.block g (World.block_lt_of_cell? _ _ h2) (fun x => x))).trans h2⟩
theorem Only.keep {S : Nat → Prop} {w w' : World} (o : Only S w w') {k : Nat} {x : Obj} (h : w.heap[k]? = some x) (hS : ¬ S k) : w'.heap[k]? = some x :=
  (o.block k (Array.getElem?_eq_some_iff.1 h).1 hS).trans h
theorem three_keep {w : World} {k b : Nat} {x : Obj} (h : w.heap[b]? = some x) (hb : ¬ b = k) (x' y' z' : Value) :
    (((w.setCell ⟨k, 0, none⟩ x').setCell ⟨k, 1, none⟩ y').setCell ⟨k, 2, none⟩ z').heap[b]? = some x := (three_other hb x' y' z').trans h
theorem three_only {S : Nat → Prop} {a w : World} {k : Nat} (o : Only S a w) (hk : S k ∨ a.heap.size ≤ k) (x' y' z' : Value) :
    Only S a (((w.setCell ⟨k, 0, none⟩ x').setCell ⟨k, 1, none⟩ y').setCell ⟨k, 2, none⟩ z') :=
  ((o.setCell (q := ⟨k, 0, none⟩) hk _).setCell (q := ⟨k, 1, none⟩) hk _).setCell (q := ⟨k, 2, none⟩) hk _
theorem Tab.three {p c k : Nat} {L : List Inf} {size hand : Int} (t : Tab w p c L size hand) (h1 : ¬ p = k) (h2 : ¬ c = k) (x' y' z' : Value) :
    Tab (((w.setCell ⟨k, 0, none⟩ x').setCell ⟨k, 1, none⟩ y').setCell ⟨k, 2, none⟩ z') p c L size hand := t.of (three_other h1 x' y' z') (three_other h2 x' y' z')
end

theorem intSl_three {w : World} {v : Value} {l : List Int} {k : Nat} {ax : Option Addr} {n1 n2 : Nat} {y z : Value} (h : IntSl w v l) (T : w.heap[k]? = some (.cells #[.slice ax n1 n2, y, z] 52)) (x' y' z' : Value)
    : IntSl (((w.setCell ⟨k, 0, none⟩ x').setCell ⟨k, 1, none⟩ y').setCell ⟨k, 2, none⟩ z') v l := by
  obtain ⟨a, cap, rfl, hc⟩ := h
  refine ⟨a, cap, rfl, fun j hj => ?_⟩
  obtain ⟨g, h1, h2⟩ := hc j hj
  obtain ⟨g0, h3, h4⟩ := hc 0 (by omega)
  have e : g = g0 := by rw [h1] at h3; simpa using h3
  refine ⟨g, h1, ?_⟩
  have hne : ¬ g = k := by
    rintro rfl
    subst e
    have := (three T).1
    rw [h4] at this
    simp at this
  exact (World.cell?_of_block (a := ⟨g, j, none⟩) (three_other hne x' y' z')).trans h2
theorem ref_two {w : World} {p c r : Nat} {L M : List Inf} {size hand : Int} (t : Tab w p c L size hand) (h : RefAt w r M) : ¬ Two p c r := by
  obtain ⟨cur, h1, _⟩ := h
  rintro (rfl | rfl)
  · have := t.hp; rw [h1] at this; simp at this
  · have := t.hc; rw [h1] at this; simp at this

/-- What Play answers. -/
def PlayRes (w : World) (p c n : Nat) (size : Int) (S : St) (e : Ending) (w' : World) : Prop :=
  ∃ c' cap', e = .returned (.tuple #[.agg #[.slice (some ⟨c', 0, none⟩) n cap', .int .i64 size, .int .i64 (refH n S.hand)], .bool true]) ∧ RefAt w' c' S.L ∧ Tab w' p c S.L size S.hand ∧ Only (Two p c) w w'

section
variable {w : World} {p c r n : Nat} {size : Int} {S : St}

set_option maxRecDepth 100000 in
set_option maxHeartbeats 4000000 in
theorem Play_any (cap : Nat) (kind i m : Int) (ht : Tab w p c S.L size S.hand) (hr : RefAt w r S.L) (hG : Good S size n) :
    Calls Try.prog 20 #[.pointer (some ⟨p, 0, none⟩), .agg #[.slice (some ⟨r, 0, none⟩) n cap, .int .i64 size, .int .i64 (refH n S.hand)], .agg #[.int .i64 kind, .int .i64 i, .int .i64 m]] w
      (PlayRes w p c n size (playF size kind i m S)) := by
  obtain ⟨L, hand⟩ := S
  obtain ⟨hI, hA, hn⟩ := hG
  simp only at ht hr hI hA hn ⊢
  obtain ⟨W, hW⟩ : ∃ W, W = ((w.alloc (.cells #[.slice (some ⟨r, 0, none⟩) n cap, .int .i64 size, .int .i64 (refH n hand)] 52)).alloc (.cells #[.int .i64 kind, .int .i64 i, .int .i64 m] 46)).alloc (.cells #[.slice none 0 0, .int .i64 0, .int .i64 0] 52) := ⟨_, rfl⟩
  have t1 : Tab W p c L size hand := by rw [hW]; exact ((ht.alloc _).alloc _).alloc _
  have r1 : RefAt W r L := by rw [hW]; exact ((hr.alloc _).alloc _).alloc _
  have o1 : Only (Two p c) w W := by rw [hW]; exact (((Only.refl _ _).alloc _).alloc _).alloc _
  have T : W.heap[w.heap.size]? = some (.cells #[.slice (some ⟨r, 0, none⟩) n cap, .int .i64 size, .int .i64 (refH n hand)] 52) := by
    rw [hW, Below.heap_alloc _ _ _ (by simp; omega), Below.heap_alloc _ _ _ (by simp)]
    exact heap_alloc_new _ _
  have O : W.heap[w.heap.size + 1]? = some (.cells #[.int .i64 kind, .int .i64 i, .int .i64 m] 46) := by
    rw [hW, Below.heap_alloc _ _ _ (by simp)]
    have h := heap_alloc_new (w.alloc (.cells #[.slice (some ⟨r, 0, none⟩) n cap, .int .i64 size, .int .i64 (refH n hand)] 52)) (.cells #[.int .i64 kind, .int .i64 i, .int .i64 m] 46)
    rw [World.size_alloc] at h
    exact h
  have Z : W.heap[w.heap.size + 1 + 1]? = some (.cells #[.slice none 0 0, .int .i64 0, .int .i64 0] 52) := by
    rw [hW]
    have h := heap_alloc_new ((w.alloc (.cells #[.slice (some ⟨r, 0, none⟩) n cap, .int .i64 size, .int .i64 (refH n hand)] 52)).alloc (.cells #[.int .i64 kind, .int .i64 i, .int .i64 m] 46)) (.cells #[.slice none 0 0, .int .i64 0, .int .i64 0] 52)
    rw [World.size_alloc, World.size_alloc] at h
    exact h
  have hp := ht.plt
  have hc := ht.clt
  have m0 : ¬ Two p c w.heap.size := fun h => by rcases h with h | h <;> omega
  have m1 : ¬ Two p c (w.heap.size + 1) := fun h => by rcases h with h | h <;> omega
  have m2 : ¬ Two p c (w.heap.size + 1 + 1) := fun h => by rcases h with h | h <;> omega
  have n1 : ¬ w.heap.size + 1 = w.heap.size := by omega
  have n2 : ¬ w.heap.size + 1 + 1 = w.heap.size := by omega
  have n3 : ¬ p = w.heap.size := by omega
  have n4 : ¬ c = w.heap.size := by omega
  have n5 : ¬ p = w.heap.size + 1 + 1 := by omega
  have n6 : ¬ c = w.heap.size + 1 + 1 := by omega
  subst hn
  have ht0 := ht
  have hr0 := hr
  clear ht hr
  have HW := Lib.hid hW
  clear hW
  by_cases k1 : kind = 1
  · subst k1
    have hU := add_any i m t1 hI
    obtain ⟨p0, p1, p2, p3, p4, p5⟩ := three T
    obtain ⟨q0, q1, q2, _, _, _⟩ := three O
    have F1 := p0
    rw [HW.out] at p0 p1 p2 p3 p4 p5 q0 q1 q2 hU
    go_enter Try.func20, Try.ntmps20
    go_wp2_with fail
    refine hU.mono ?_
    rintro e w2 ⟨rfl, t2, o2⟩
    rw [← HW.out] at o2
    have T2 := o2.keep T m0
    have O2 := o2.keep O m1
    have Z2 := o2.keep Z m2
    have r2 := r1.only o2 (ref_two t1 r1)
    have oo := o1.trans o2
    clear p0 p1 p2 p3 p4 p5 q0 q1 q2 F1 hU T O Z r1 t1 o1 o2 HW
    have hRf := radd_any cap i m size (refH L.length hand) r2 hI.len hI.live hI.size
    obtain ⟨p0, p1, p2, p3, p4, p5⟩ := three T2
    obtain ⟨q0, q1, q2, _, _, _⟩ := three O2
    go_wp2_with fail
    refine hRf.mono ?_
    rintro e w3 ⟨c', cap', rfl, r3, o3⟩
    have T3 := o3.keep T2 (fun h => h)
    have Z3 := o3.keep Z2 (fun h => h)
    have t3 := t2.onlyF o3
    have oo3 := oo.trans (o3.two p c)
    clear p0 p1 p2 p3 p4 p5 q0 q1 q2 hRf T2 O2 Z2 r2 t2 oo o3
    have nr := r3.ne52 T3
    have nz := r3.ne52 Z3
    obtain ⟨p0, p1, p2, p3, p4, p5⟩ := three T3
    obtain ⟨z0, z1, z2, z3, z4, z5⟩ := three Z3
    go_wp2_with fail
    refine bodyPost_ret (v := .tuple #[.agg #[.slice (some ⟨c', 0, none⟩) L.length cap', .int .i64 size, .int .i64 (refH L.length hand)], .bool true]) (by simp [results, Try.results20, go_sem, z0, z1, z2]) rfl ⟨c', cap', rfl, ?_, ?_, ?_⟩
    · exact (((((r3.poke nr _ _).poke nr _ _).poke nr _ _).poke nz _ _).poke nz _ _).poke nz _ _
    · exact (t3.three n3 n4 _ _ _).three n5 n6 _ _ _
    · exact three_only (three_only oo3 (.inr (Nat.le_refl _)) _ _ _) (.inr (by omega)) _ _ _
  by_cases k2 : kind = 2
  · subst k2
    have hU := touch_any i m t1
    obtain ⟨p0, p1, p2, p3, p4, p5⟩ := three T
    obtain ⟨q0, q1, q2, _, _, _⟩ := three O
    have F1 := p0
    rw [HW.out] at p0 p1 p2 p3 p4 p5 q0 q1 q2 hU
    go_enter Try.func20, Try.ntmps20
    go_wp2_with fail
    refine hU.mono ?_
    rintro e w2 ⟨rfl, t2, o2⟩
    rw [← HW.out] at o2
    have T2 := o2.keep T m0
    have O2 := o2.keep O m1
    have Z2 := o2.keep Z m2
    have r2 := r1.only o2 (fun h => by have := r1.ne52 T; have := t1; exact ref_two t1 r1 h)
    have oo := o1.trans o2
    clear p0 p1 p2 p3 p4 p5 q0 q1 q2 F1 hU T O Z r1 t1 o1 o2 HW
    have hRf := rtouch_any cap i m size (refH L.length hand) r2 hI.len
    obtain ⟨p0, p1, p2, p3, p4, p5⟩ := three T2
    obtain ⟨q0, q1, q2, _, _, _⟩ := three O2
    go_wp2_with fail
    refine hRf.mono ?_
    rintro e w3 ⟨c', cap', rfl, r3, o3⟩
    have T3 := o3.keep T2 (fun h => h)
    have Z3 := o3.keep Z2 (fun h => h)
    have t3 := t2.onlyF o3
    have oo3 := oo.trans (o3.two p c)
    clear p0 p1 p2 p3 p4 p5 q0 q1 q2 hRf T2 O2 Z2 r2 t2 oo o3
    have nr := r3.ne52 T3
    have nz := r3.ne52 Z3
    obtain ⟨p0, p1, p2, p3, p4, p5⟩ := three T3
    obtain ⟨z0, z1, z2, z3, z4, z5⟩ := three Z3
    go_wp2_with fail
    refine bodyPost_ret (v := .tuple #[.agg #[.slice (some ⟨c', 0, none⟩) L.length cap', .int .i64 size, .int .i64 (refH L.length hand)], .bool true]) (by simp [results, Try.results20, go_sem, z0, z1, z2]) rfl ⟨c', cap', rfl, ?_, ?_, ?_⟩
    · exact (((((r3.poke nr _ _).poke nr _ _).poke nr _ _).poke nz _ _).poke nz _ _).poke nz _ _
    · exact (t3.three n3 n4 _ _ _).three n5 n6 _ _ _
    · exact three_only (three_only oo3 (.inr (Nat.le_refl _)) _ _ _) (.inr (by omega)) _ _ _
  by_cases k3 : kind = 3
  · subst k3
    have hU := take_any t1 hI
    obtain ⟨p0, p1, p2, p3, p4, p5⟩ := three T
    obtain ⟨q0, q1, q2, _, _, _⟩ := three O
    have F1 := p0
    rw [HW.out] at p0 p1 p2 p3 p4 p5 q0 q1 q2 hU
    go_enter Try.func20, Try.ntmps20
    go_wp2_with fail
    refine hU.mono ?_
    rintro e w2 ⟨rfl, t2, o2⟩
    rw [← HW.out] at o2
    have T2 := o2.keep T m0
    have O2 := o2.keep O m1
    have Z2 := o2.keep Z m2
    have r2 := r1.only o2 (fun h => by have := r1.ne52 T; have := t1; exact ref_two t1 r1 h)
    have oo := o1.trans o2
    clear p0 p1 p2 p3 p4 p5 q0 q1 q2 F1 hU T O Z r1 t1 o1 o2 HW
    have hRf := rtake_any cap size hand r2 hI hA
    obtain ⟨p0, p1, p2, p3, p4, p5⟩ := three T2
    obtain ⟨q0, q1, q2, _, _, _⟩ := three O2
    go_wp2_with fail
    refine hRf.mono ?_
    rintro e w3 ⟨c', cap', rfl, r3, o3⟩
    have T3 := o3.keep T2 (fun h => h)
    have Z3 := o3.keep Z2 (fun h => h)
    have t3 := t2.onlyF o3
    have oo3 := oo.trans (o3.two p c)
    clear p0 p1 p2 p3 p4 p5 q0 q1 q2 hRf T2 O2 Z2 r2 t2 oo o3
    have nr := r3.ne52 T3
    have nz := r3.ne52 Z3
    obtain ⟨p0, p1, p2, p3, p4, p5⟩ := three T3
    obtain ⟨z0, z1, z2, z3, z4, z5⟩ := three Z3
    go_wp2_with fail
    refine bodyPost_ret (v := .tuple #[.agg #[.slice (some ⟨c', 0, none⟩) L.length cap', .int .i64 size, .int .i64 (refH L.length (takeH L hand))], .bool true]) (by simp [results, Try.results20, go_sem, z0, z1, z2]) rfl ⟨c', cap', rfl, ?_, ?_, ?_⟩
    · exact (((((r3.poke nr _ _).poke nr _ _).poke nr _ _).poke nz _ _).poke nz _ _).poke nz _ _
    · exact (t3.three n3 n4 _ _ _).three n5 n6 _ _ _
    · exact three_only (three_only oo3 (.inr (Nat.le_refl _)) _ _ _) (.inr (by omega)) _ _ _
  by_cases k4 : kind = 4
  · subst k4
    have hU := use_any i t1
    obtain ⟨p0, p1, p2, p3, p4, p5⟩ := three T
    obtain ⟨q0, q1, q2, _, _, _⟩ := three O
    have F1 := p0
    rw [HW.out] at p0 p1 p2 p3 p4 p5 q0 q1 q2 hU
    go_enter Try.func20, Try.ntmps20
    go_wp2_with fail
    refine hU.mono ?_
    rintro e w2 ⟨rfl, t2, o2⟩
    rw [← HW.out] at o2
    have T2 := o2.keep T m0
    have O2 := o2.keep O m1
    have Z2 := o2.keep Z m2
    have r2 := r1.only o2 (fun h => by have := r1.ne52 T; have := t1; exact ref_two t1 r1 h)
    have oo := o1.trans o2
    clear p0 p1 p2 p3 p4 p5 q0 q1 q2 F1 hU T O Z r1 t1 o1 o2 HW
    have hRf := ruse_any cap i size (refH L.length hand) r2 hI.len
    obtain ⟨p0, p1, p2, p3, p4, p5⟩ := three T2
    obtain ⟨q0, q1, q2, _, _, _⟩ := three O2
    go_wp2_with fail
    refine hRf.mono ?_
    rintro e w3 ⟨c', cap', rfl, r3, o3⟩
    have T3 := o3.keep T2 (fun h => h)
    have Z3 := o3.keep Z2 (fun h => h)
    have t3 := t2.onlyF o3
    have oo3 := oo.trans (o3.two p c)
    clear p0 p1 p2 p3 p4 p5 q0 q1 q2 hRf T2 O2 Z2 r2 t2 oo o3
    have nr := r3.ne52 T3
    have nz := r3.ne52 Z3
    obtain ⟨p0, p1, p2, p3, p4, p5⟩ := three T3
    obtain ⟨z0, z1, z2, z3, z4, z5⟩ := three Z3
    go_wp2_with fail
    refine bodyPost_ret (v := .tuple #[.agg #[.slice (some ⟨c', 0, none⟩) L.length cap', .int .i64 size, .int .i64 (refH L.length hand)], .bool true]) (by simp [results, Try.results20, go_sem, z0, z1, z2]) rfl ⟨c', cap', rfl, ?_, ?_, ?_⟩
    · exact (((((r3.poke nr _ _).poke nr _ _).poke nr _ _).poke nz _ _).poke nz _ _).poke nz _ _
    · exact (t3.three n3 n4 _ _ _).three n5 n6 _ _ _
    · exact three_only (three_only oo3 (.inr (Nat.le_refl _)) _ _ _) (.inr (by omega)) _ _ _
  by_cases k5 : kind = 5
  · subst k5
    have hU := rel_any i t1
    obtain ⟨p0, p1, p2, p3, p4, p5⟩ := three T
    obtain ⟨q0, q1, q2, _, _, _⟩ := three O
    have F1 := p0
    rw [HW.out] at p0 p1 p2 p3 p4 p5 q0 q1 q2 hU
    go_enter Try.func20, Try.ntmps20
    go_wp2_with fail
    refine hU.mono ?_
    rintro e w2 ⟨rfl, t2, o2⟩
    rw [← HW.out] at o2
    have T2 := o2.keep T m0
    have O2 := o2.keep O m1
    have Z2 := o2.keep Z m2
    have r2 := r1.only o2 (fun h => by have := r1.ne52 T; have := t1; exact ref_two t1 r1 h)
    have oo := o1.trans o2
    clear p0 p1 p2 p3 p4 p5 q0 q1 q2 F1 hU T O Z r1 t1 o1 o2 HW
    have hRf := rrel_any cap i size (refH L.length hand) r2 hI.len hI.live
    obtain ⟨p0, p1, p2, p3, p4, p5⟩ := three T2
    obtain ⟨q0, q1, q2, _, _, _⟩ := three O2
    go_wp2_with fail
    refine hRf.mono ?_
    rintro e w3 ⟨c', cap', rfl, r3, o3⟩
    have T3 := o3.keep T2 (fun h => h)
    have Z3 := o3.keep Z2 (fun h => h)
    have t3 := t2.onlyF o3
    have oo3 := oo.trans (o3.two p c)
    clear p0 p1 p2 p3 p4 p5 q0 q1 q2 hRf T2 O2 Z2 r2 t2 oo o3
    have nr := r3.ne52 T3
    have nz := r3.ne52 Z3
    obtain ⟨p0, p1, p2, p3, p4, p5⟩ := three T3
    obtain ⟨z0, z1, z2, z3, z4, z5⟩ := three Z3
    go_wp2_with fail
    refine bodyPost_ret (v := .tuple #[.agg #[.slice (some ⟨c', 0, none⟩) L.length cap', .int .i64 size, .int .i64 (refH L.length hand)], .bool true]) (by simp [results, Try.results20, go_sem, z0, z1, z2]) rfl ⟨c', cap', rfl, ?_, ?_, ?_⟩
    · exact (((((r3.poke nr _ _).poke nr _ _).poke nr _ _).poke nz _ _).poke nz _ _).poke nz _ _
    · exact (t3.three n3 n4 _ _ _).three n5 n6 _ _ _
    · exact three_only (three_only oo3 (.inr (Nat.le_refl _)) _ _ _) (.inr (by omega)) _ _ _
  by_cases k6 : kind = 6
  · subst k6
    have hU := sweep_any t1 hI.len
    obtain ⟨p0, p1, p2, p3, p4, p5⟩ := three T
    obtain ⟨q0, q1, q2, _, _, _⟩ := three O
    rw [HW.out] at p0 p1 p2 p3 p4 p5 q0 q1 q2 hU
    go_enter Try.func20, Try.ntmps20
    go_wp2_with fail
    refine hU.mono ?_
    rintro e w2 ⟨v, rfl, hIn, t2, o2⟩
    rw [← HW.out] at o2
    have T2 := o2.keep T m0
    have Z2 := o2.keep Z m2
    have r2 := r1.only o2 (ref_two t1 r1)
    have oo := o1.trans o2
    have i2 := hIn.sl
    have I2 := Lib.hid i2
    clear p0 p1 p2 p3 p4 p5 q0 q1 q2 hU T O Z r1 t1 o1 o2 HW hIn i2
    have hRf := rsweep_any cap size (refH L.length hand) r2 hI.len hI.live
    obtain ⟨p0, p1, p2, p3, p4, p5⟩ := three T2
    go_wp2_with fail
    refine hRf.mono ?_
    rintro e w3 ⟨c', cap', v', rfl, r3, i3, o3⟩
    have T3 := o3.keep T2 (fun h => h)
    have Z3 := o3.keep Z2 (fun h => h)
    have t3 := t2.onlyF o3
    have oo3 := oo.trans (o3.two p c)
    have i4 := I2.out.onlyF o3
    have J3 := Lib.hid i3
    have J4 := Lib.hid i4
    clear p0 p1 p2 p3 p4 p5 hRf T2 Z2 r2 t2 oo o3 i3 i4 I2
    have nr := r3.ne52 T3
    have nz := r3.ne52 Z3
    obtain ⟨p0, p1, p2, p3, p4, p5⟩ := three T3
    have T4 := three_set T3 (.slice (some ⟨c', 0, none⟩) L.length cap') (.int .i64 size) (.int .i64 (refH L.length hand))
    have Z4 := three_keep Z3 n2 (.slice (some ⟨c', 0, none⟩) L.length cap') (.int .i64 size) (.int .i64 (refH L.length hand))
    have r4 := ((r3.poke nr 0 (.slice (some ⟨c', 0, none⟩) L.length cap')).poke nr 1 (.int .i64 size)).poke nr 2 (.int .i64 (refH L.length hand))
    have t4 := t3.three n3 n4 (.slice (some ⟨c', 0, none⟩) L.length cap') (.int .i64 size) (.int .i64 (refH L.length hand))
    have oo4 := three_only oo3 (.inr (Nat.le_refl _)) (.slice (some ⟨c', 0, none⟩) L.length cap') (.int .i64 size) (.int .i64 (refH L.length hand))
    have j3 := intSl_three J3.out T3 (.slice (some ⟨c', 0, none⟩) L.length cap') (.int .i64 size) (.int .i64 (refH L.length hand))
    have j4 := intSl_three J4.out T3 (.slice (some ⟨c', 0, none⟩) L.length cap') (.int .i64 size) (.int .i64 (refH L.length hand))
    have hlen := len_swept L L.length
    have hL512 := hI.len
    have hRi := ints_any v v' (sweptTo L L.length) (by omega) j4 j3
    clear j3 j4 J3 J4 T3 Z3 r3 t3 oo3 nr hlen
    go_wp2_with fail
    refine hRi.mono ?_
    rintro e w5 ⟨rfl, o5⟩
    have T5 := o5.keep T4 (fun h => h)
    have Z5 := o5.keep Z4 (fun h => h)
    have t5 := t4.onlyF o5
    have r5 := r4.onlyF o5
    have oo5 := oo4.trans (o5.two p c)
    clear p0 p1 p2 p3 p4 p5 hRi T4 Z4 r4 t4 oo4 o5
    have nz := r5.ne52 Z5
    obtain ⟨p0, p1, p2, p3, p4, p5⟩ := three T5
    obtain ⟨z0, z1, z2, z3, z4, z5⟩ := three Z5
    go_wp2_with fail
    refine bodyPost_ret (v := .tuple #[.agg #[.slice (some ⟨c', 0, none⟩) L.length cap', .int .i64 size, .int .i64 (refH L.length hand)], .bool true]) (by simp [results, Try.results20, go_sem, z0, z1, z2]) rfl ⟨c', cap', rfl, ?_, ?_, ?_⟩
    · exact ((r5.poke nz _ _).poke nz _ _).poke nz _ _
    · exact t5.three n5 n6 _ _ _
    · exact three_only oo5 (.inr (by omega)) _ _ _
  by_cases k7 : kind = 7
  · subst k7
    have hU := sei_any i t1 hI
    obtain ⟨p0, p1, p2, p3, p4, p5⟩ := three T
    obtain ⟨q0, q1, q2, _, _, _⟩ := three O
    have F1 := p0
    rw [HW.out] at p0 p1 p2 p3 p4 p5 q0 q1 q2 hU
    go_enter Try.func20, Try.ntmps20
    go_wp2_with fail
    refine hU.mono ?_
    rintro e w2 ⟨rfl, t2, o2⟩
    rw [← HW.out] at o2
    have T2 := o2.keep T m0
    have O2 := o2.keep O m1
    have Z2 := o2.keep Z m2
    have r2 := r1.only o2 (fun h => by have := r1.ne52 T; have := t1; exact ref_two t1 r1 h)
    have oo := o1.trans o2
    clear p0 p1 p2 p3 p4 p5 q0 q1 q2 F1 hU T O Z r1 t1 o1 o2 HW
    have hRf := rsei_any cap i size hand r2 hI hA
    obtain ⟨p0, p1, p2, p3, p4, p5⟩ := three T2
    obtain ⟨q0, q1, q2, _, _, _⟩ := three O2
    go_wp2_with fail
    refine hRf.mono ?_
    rintro e w3 ⟨c', cap', rfl, r3, o3⟩
    have T3 := o3.keep T2 (fun h => h)
    have Z3 := o3.keep Z2 (fun h => h)
    have t3 := t2.onlyF o3
    have oo3 := oo.trans (o3.two p c)
    clear p0 p1 p2 p3 p4 p5 q0 q1 q2 hRf T2 O2 Z2 r2 t2 oo o3
    have nr := r3.ne52 T3
    have nz := r3.ne52 Z3
    obtain ⟨p0, p1, p2, p3, p4, p5⟩ := three T3
    obtain ⟨z0, z1, z2, z3, z4, z5⟩ := three Z3
    go_wp2_with fail
    refine bodyPost_ret (v := .tuple #[.agg #[.slice (some ⟨c', 0, none⟩) L.length cap', .int .i64 size, .int .i64 (refH L.length (seizeH L hand i))], .bool true]) (by simp [results, Try.results20, go_sem, z0, z1, z2]) rfl ⟨c', cap', rfl, ?_, ?_, ?_⟩
    · exact (((((r3.poke nr _ _).poke nr _ _).poke nr _ _).poke nz _ _).poke nz _ _).poke nz _ _
    · exact (t3.three n3 n4 _ _ _).three n5 n6 _ _ _
    · exact three_only (three_only oo3 (.inr (Nat.le_refl _)) _ _ _) (.inr (by omega)) _ _ _
  have e1 : playF size kind i m ⟨L, hand⟩ = ⟨L, hand⟩ := by unfold playF playS; rw [if_neg k6, if_neg k1, if_neg k2, if_neg k3, if_neg k4, if_neg k5, if_neg k7]
  rw [e1]
  clear e1
  have b1 : (kind == 1) = false := beq_eq_false_iff_ne.2 k1
  have b2 : (kind == 2) = false := beq_eq_false_iff_ne.2 k2
  have b3 : (kind == 3) = false := beq_eq_false_iff_ne.2 k3
  have b4 : (kind == 4) = false := beq_eq_false_iff_ne.2 k4
  have b5 : (kind == 5) = false := beq_eq_false_iff_ne.2 k5
  have b6 : (kind == 6) = false := beq_eq_false_iff_ne.2 k6
  have b7 : (kind == 7) = false := beq_eq_false_iff_ne.2 k7
  clear k1 k2 k3 k4 k5 k6 k7
  go_enter Try.func20, Try.ntmps20
  go_wp2_with fail
  refine bodyPost_ret (v := .tuple #[.agg #[.slice (some ⟨r, 0, none⟩) L.length cap, .int .i64 size, .int .i64 (refH L.length hand)], .bool true]) (by simp [results, Try.results20, go_sem]) rfl ⟨r, cap, rfl, ?_, ?_, ?_⟩
  · exact ((hr0.alloc _).alloc _).alloc _
  · exact ((ht0.alloc _).alloc _).alloc _
  · exact (((Only.refl _ _).alloc _).alloc _).alloc _
end
end Go.Proofs.Ytfjkdkkljfgboaa
