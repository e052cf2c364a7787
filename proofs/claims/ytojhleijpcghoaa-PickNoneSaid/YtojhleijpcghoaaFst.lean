/-
  The walk of pick's first: what it answers. Conditions: the slice's cells, what is wanted.
-/
import Derived.Test.YtojhleijpcghoaaClp
import Derived.Deep.AppendLies
import Derived.Deep.RegionLaw
import Derived.OwnWalk
namespace Go.Proofs.Ytojhleijpcghoaa
open Go.RowKit
set_option linter.unusedVariables false

theorem info51 : (Try.prog.info? 51).map (fun i => (i.zero, i.size, i.bytes)) = some (some (.agg #[.int .i64 0, .int .i64 0, .int .i64 0, .int .i64 0, .int .i64 0]), 5, 40) := by kernel_rfl
theorem info35 : (Try.prog.info? 35).map (fun i => (i.zero, i.size, i.bytes)) = some (some (.agg #[.int .i64 0, .int .i64 0, .int .i64 0, .int .i64 0]), 4, 32) := by kernel_rfl

/-- The candidates, each with its place. -/
def placeF : Nat → List Cd → List Pl
  | _, [] => []
  | k, c :: l => ⟨c, k⟩ :: placeF (k + 1) l

theorem placeF_length (l : List Cd) : ∀ k, (placeF k l).length = l.length := by
  induction l with
  | nil => intro k; rfl
  | cons c l ih => intro k; simp [placeF, ih]
theorem placeF_snoc (l : List Cd) (c : Cd) : ∀ k, placeF k (l ++ [c]) = placeF k l ++ [⟨c, (k + l.length : Nat)⟩] := by
  induction l with
  | nil => intro k; rfl
  | cons d l ih => intro k; simp [placeF, ih]; omega
theorem placeF_next (l : List Cd) (k : Nat) (h : k < l.length) : placeF 0 (l.take (k + 1)) = placeF 0 (l.take k) ++ [⟨l.getD k Cd.zero, k⟩] := by
  rw [List.take_succ_eq_append_getElem h, placeF_snoc, List.length_take, Nat.min_eq_left (by omega), List.getD_eq_getElem?_getD, List.getElem?_eq_getElem h, Nat.zero_add]
  rfl

theorem own_ne {w : World} {base size n g : Nat} {e t : TypeId} {v : Value} {xs : List Value} {cs : Array Value} (h : w.ownsRow base e size v n xs) (hg : w.heap[g]? = some (.cells cs t (0, 0))) (hne : e ≠ t := by decide) : v.ownBlock ≠ some g := by
  rcases h.2 with ⟨rfl, _⟩ | ⟨g', cap, cur, rfl, _, hh, _⟩
  · simp [Value.ownBlock]
  · intro he
    have : g' = g := by simpa [Value.ownBlock] using he
    subst this
    rw [hh] at hg
    injection hg with hg
    injection hg with _ ht
    exact hne ht

theorem alloc2_new (w : World) (A B : Obj) : ((w.alloc A).alloc B).heap[w.heap.size + 1]? = some B := by
  have h := heap_alloc_new (w.alloc A) B
  rw [World.size_alloc] at h
  exact h

theorem size2_le {w : World} {A B : Obj} {b : Nat} (h : b ≤ w.heap.size) : b ≤ ((w.alloc A).alloc B).heap.size := by
  simp only [World.size_alloc]
  omega
theorem far2 {w w5 : World} {A B : Obj} {row : Option Nat} {q : Nat} (h : ((w.alloc A).alloc B).grownBy w5 row) (hq : q < w.heap.size) (hne : row ≠ some q) : w5.heap[q]? = w.heap[q]? := by
  rw [h.block q (by simp only [World.size_alloc]; omega) (fun e => hne e.symm), Below.heap_alloc _ _ _ (by simp only [World.size_alloc]; omega), Below.heap_alloc _ _ _ hq]
theorem one_cell {w : World} {q : Nat} {v : Value} {t : TypeId} (h : w.heap[q]? = some (.cells #[v] t (0, 0))) : w.cell? ⟨q, 0, none⟩ = some v := by simp [World.cell?, h]
theorem one_free {w : World} {q : Nat} {v : Value} {t : TypeId} (h : w.heap[q]? = some (.cells #[v] t (0, 0))) : w.frozen? ⟨q, 0, none⟩ = false := by simp [World.frozen?, h]

theorem own_only {S : Nat → Prop} {w w' : World} {base size n : Nat} {e : TypeId} {v : Value} {xs : List Value} (h : w.ownsRow base e size v n xs) (o : Only S w w') (hS : ∀ g, v.ownBlock = some g → ¬ S g) : w'.ownsRow base e size v n xs := by
  refine ⟨h.1, ?_⟩
  rcases h.2 with hn | ⟨g, cap, cur, rfl, hb, hgg, rest⟩
  · exact .inl hn
  · refine .inr ⟨g, cap, cur, rfl, hb, ?_, rest⟩
    rw [o.block g (Array.getElem?_eq_some_iff.1 hgg).1 (hS g rfl)]
    exact hgg
theorem own_set {w : World} {base size n q : Nat} {e t : TypeId} {v u : Value} {xs : List Value} {cs : Array Value} (h : w.ownsRow base e size v n xs) (hq : w.heap[q]? = some (.cells cs t (0, 0))) (hne : e ≠ t := by decide) : (w.setCell ⟨q, 0, none⟩ u).ownsRow base e size v n xs :=
  own_only (S := fun k => k = q) h ((Only.refl (fun k => k = q) w).setCell (q := ⟨q, 0, none⟩) (.inl rfl) u) (fun g hg hk => own_ne h hq hne (by rw [hg, hk]))
/-- What the round's end needs: the queue behind one append. -/
theorem fill_round {w wr w5 : World} {A B : Obj} {qb g gc k : Nat} {v : Value} {xs ys : List Value} (o : Only (fun _ => False) w wr) (hq : w.heap.size ≤ qb) (HO : wr.ownsRow w.heap.size 51 5 v k xs)
    (hg5 : ((wr.alloc A).alloc B).grownBy w5 v.ownBlock) (hown5 : w5.ownsRow w.heap.size 51 5 (.slice (some ⟨g, 0, none⟩) (k + 1) gc) (k + 1) ys) (hB5 : w5.heap[qb]? = some (.cells #[v] 49 (0, 0))) :
    (w5.setCell ⟨qb, 0, none⟩ (.slice (some ⟨g, 0, none⟩) (k + 1) gc)).heap[qb]? = some (.cells #[.slice (some ⟨g, 0, none⟩) (k + 1) gc] 49 (0, 0)) ∧
    (w5.setCell ⟨qb, 0, none⟩ (.slice (some ⟨g, 0, none⟩) (k + 1) gc)).ownsRow w.heap.size 51 5 (.slice (some ⟨g, 0, none⟩) (k + 1) gc) (k + 1) ys ∧
    Only (fun _ => False) w (w5.setCell ⟨qb, 0, none⟩ (.slice (some ⟨g, 0, none⟩) (k + 1) gc)) :=
  ⟨heap_setCell_same _ _ _ _ _ _ _ hB5, own_set hown5 hB5,
    (((o.alloc A).alloc B).grown hg5 (fun i hi => (HO.lt i hi).1)).setCell (q := ⟨qb, 0, none⟩) (.inr hq) _⟩

/-- The first of the order, as long as more is wanted: what the walk does. -/
def runF (W : Nat → Int → Bool) : Nat → List Pl → List Cd → Int → List Cd
  | 0, _, out, _ => out
  | m + 1, Q, out, room =>
    if W out.length room = true then runF W m ((popF Q m).take m) (out ++ [(elt (popF Q m) m).c]) (room + ((elt (popF Q m) m).c.cap - (elt (popF Q m) m).c.live))
    else out
def firstF (W : Nat → Int → Bool) (l : List Cd) : List Cd := runF W l.length (initF (l.length / 2) (placeF 0 l) l.length) [] 0

theorem gd_of_chk {l : List Cd} (h : chkC l = 0) : ∀ i, i < (placeF 0 l).length → Gd (elt (placeF 0 l) i).c := by
  have hb : l.any badC = false := by
    unfold chkC at h
    split at h
    · simp at h
    · rename_i h2
      cases hb : l.any badC with
      | true => exact absurd (.inr hb) h2
      | false => rfl
  have key : ∀ (l : List Cd) (k : Nat), l.any badC = false → ∀ i, i < (placeF k l).length → Gd (elt (placeF k l) i).c := by
    intro l
    induction l with
    | nil => intro k _ i hi; simp [placeF] at hi
    | cons c l ih =>
      intro k hb i hi
      simp only [List.any_cons, Bool.or_eq_false_iff] at hb
      cases i with
      | zero => exact (badC_gd c).1 hb.1
      | succ i => exact ih (k + 1) hb.2 i (by simpa [placeF] using hi)
  exact key l 0 hb

theorem Only.over {S : Nat → Prop} {w wr w3 : World} (o : Only (fun _ => False) w wr) (o3 : Only S wr w3) (hS : ∀ k, S k → w.heap.size ≤ k) : Only (fun _ => False) w w3 :=
  ⟨o3.os.trans o.os, o3.tape.trans o.tape, o3.output.trans o.output, Nat.le_trans o.size o3.size,
    fun k hk _ => (o3.block k (Nat.lt_of_lt_of_le hk o.size) (fun s => by have := hS k s; omega)).trans (o.block k hk (fun x => x))⟩
theorem own_slice {w : World} {base size n : Nat} {e : TypeId} {v : Value} {xs : List Value} (h : w.ownsRow base e size v n xs) : ∃ A c, v = .slice A n c := by
  rcases h.2 with ⟨rfl, rfl⟩ | ⟨g', cap', cur, h1, _⟩
  · exact ⟨_, _, rfl⟩
  · exact ⟨_, _, h1⟩
def lenV : Value → Nat
  | .slice _ n _ => n
  | _ => 0

theorem len_initF (k : Nat) : ∀ (Q : List Pl) (n : Nat), (initF k Q n).length = Q.length := by
  induction k with
  | zero => intro Q n; rfl
  | succ k ih => intro Q n; unfold initF; rw [ih, len_downF]

theorem gd_swap {Q : List Pl} {i j : Nat} (h : ∀ k, k < Q.length → Gd (elt Q k).c) (hi : i < Q.length) (hj : j < Q.length) : ∀ k, k < (swapQ Q i j).length → Gd (elt (swapQ Q i j) k).c := by
  intro k hk
  rw [len_swapQ] at hk
  rw [elt_swap Q i j k hi hj]
  split
  · exact h i hi
  · split
    · exact h j hj
    · exact h k hk
theorem gd_down : ∀ (f : Nat) (Q : List Pl) (i n : Nat), n ≤ Q.length → (∀ k, k < Q.length → Gd (elt Q k).c) → ∀ k, k < (downF f Q i n).length → Gd (elt (downF f Q i n) k).c := by
  intro f
  induction f with
  | zero => intro Q i n _ h; exact h
  | succ f ih =>
    intro Q i n hn h
    unfold downF
    split
    · exact h
    · rename_i hi
      simp only
      split
      · rename_i hc
        split
        · exact ih _ _ _ (by rw [len_swapQ]; exact hn) (gd_swap h (by omega) (by omega))
        · exact h
      · split
        · exact ih _ _ _ (by rw [len_swapQ]; exact hn) (gd_swap h (by omega) (by omega))
        · exact h
theorem gd_pop {Q : List Pl} {m : Nat} (hm : Q.length = m + 1) (h : ∀ k, k < Q.length → Gd (elt Q k).c) : Gd (elt (popF Q m) m).c :=
  gd_down m (swapQ Q 0 m) 0 m (by rw [len_swapQ]; omega) (gd_swap h (by omega) (by omega)) m (by rw [len_downF, len_swapQ]; omega)
theorem Only.grownS {S : Nat → Prop} {a w w' : World} {row : Option Nat} (h : Only S a w) (hg : w.grownBy w' row) (hr : ∀ k, row = some k → S k ∨ a.heap.size ≤ k) : Only S a w' :=
  ⟨hg.os.trans h.os, hg.tape.trans h.tape, hg.output.trans h.output, Nat.le_trans h.size hg.size,
    fun k hk hs => (hg.block k (Nat.lt_of_lt_of_le hk h.size) (fun e => by rcases hr k e.symm with x | x; exact hs x; omega)).trans (h.block k hk hs)⟩
theorem QAt.only {S : Nat → Prop} {w w' : World} {qb g cap : Nat} {Q : List Pl} (h : QAt w qb g cap Q) (o : Only S w w') (h1 : ¬ S qb) (h2 : ¬ S g) : QAt w' qb g cap Q :=
  ⟨o.keep h.box h1, h.pl.only o h2, h.good⟩
theorem own_pl {w : World} {base size n g : Nat} {e : TypeId} {v : Value} {xs : List Value} {Q : List Pl} (h : w.ownsRow base e size v n xs) (hg : PlAt w g Q) (hne : e ≠ 51 := by decide) : v.ownBlock ≠ some g := by
  obtain ⟨cur, h1, _⟩ := hg
  exact own_ne h h1 hne
/-- What the round's end needs: the queue and what is out, behind one pop and one append. -/
theorem pop_round {w wr w3 : World} {A B : Obj} {qb g gc n : Nat} {Q Q' : List Pl} {v : Value} {xs : List Value} (o5 : Only (fun _ => False) w wr) (hO : wr.ownsRow w.heap.size 35 4 v n xs) (q5 : QAt wr qb g gc Q)
    (hqB : w.heap.size ≤ qb) (hgB : w.heap.size ≤ g) (o6 : Only (fun k => k = qb ∨ k = g) wr w3) (q6 : QAt w3 qb g gc Q') :
    w3.ownsRow w.heap.size 35 4 v n xs ∧ (∀ k, v.ownBlock = some k → k < w3.heap.size) ∧
    (∀ w5, ((w3.alloc A).alloc B).grownBy w5 v.ownBlock → w5.heap[w3.heap.size]? = some A ∧ QAt w5 qb g gc Q' ∧ Only (fun _ => False) w w5) := by
  have hO3 : w3.ownsRow w.heap.size 35 4 v n xs := own_only hO o6 (fun k hk hs => by
    rcases hs with rfl | rfl
    · exact own_ne hO q5.box (by decide) hk
    · exact own_pl hO q5.pl (by decide) hk)
  refine ⟨hO3, fun k hk => (hO3.lt k hk).2, fun w5 hg => ?_⟩
  refine ⟨?_, ?_, ?_⟩
  · rw [hg.block w3.heap.size (by simp only [World.size_alloc]; omega) (fun e => by have := (hO3.lt _ e.symm).2; omega), Below.heap_alloc _ _ _ (by simp only [World.size_alloc]; omega)]
    exact heap_alloc_new w3 A
  · refine q6.only (S := fun k => v.ownBlock = some k) ((((Only.refl _ w3).alloc A).alloc B).grownS hg (fun k hk => .inl hk)) ?_ ?_
    · exact own_ne hO3 q6.box (by decide)
    · exact own_pl hO3 q6.pl (by decide)
  · exact (((o5.over o6 (fun k hk => by rcases hk with rfl | rfl; exact hqB; exact hgB)).alloc A).alloc B).grown hg (fun k hk => (hO3.lt k hk).1)

theorem assert51 (v : Value) (w : World) : (Instr.typeAssert (.iface 51 v) 20 51 false).run Try.prog w = .ok v w := by kernel_rfl

theorem field51 (x : Pl) (w : World) : (Instr.field 51 (.agg #[.int .i64 x.c.seg, .int .i64 x.c.live, .int .i64 x.c.cap, .int .i64 x.c.age, .int .i64 x.at_]) 0).run Try.prog w = .ok (.agg #[.int .i64 x.c.seg, .int .i64 x.c.live, .int .i64 x.c.cap, .int .i64 x.c.age]) w := by kernel_rfl

/-- What first answers. -/
def FirstRes (w : World) (l : List Cd) (e : Ending) (w' : World) : Prop := ∃ v, e = .returned (.tuple #[v, .int .i64 0]) ∧ CdOwn w' w.heap.size v l ∧ Only (fun _ => False) w w'

set_option maxRecDepth 100000 in
set_option maxHeartbeats 1000000 in
theorem first_any (a : Option Addr) (cap : Nat) (l : List Cd) (fn kb : Nat) (W : Nat → Int → Bool) (w : World) (hfn : fn = 21 ∨ fn = 26) (hL : l.length ≤ 512) (h : CdsAt w a l) (hc : chkC l = 0) (h0 : 0 < l.length)
    (hW : ∀ (w' : World) (n : Nat) (room : Int), Only (fun _ => False) w w' → Calls Try.prog fn #[.int .i64 n, .int .i64 room, .pointer (some ⟨kb, 0, none⟩)] w' fun e w'' => e = .returned (.bool (W n room)) ∧ w' = w'') :
    Calls Try.prog 20 #[.slice a l.length cap, .func (.func fn) #[] #[.pointer (some ⟨kb, 0, none⟩)]] w (FirstRes w (firstF W l)) := by
  have hI := check_any a cap l w (by unfold maxLen; omega) h
  have HA := Lib.hid h
  have HGd := Lib.hid (gd_of_chk hc)
  rw [hc] at hI
  have HW := Lib.hid hW
  obtain ⟨i0, hi0, hz0, hz1, hz2⟩ := info_parts info51
  have HI := Lib.hid (And.intro hi0 (And.intro hz0 (And.intro hz1 hz2)))
  have HFn := Lib.hid hfn
  obtain ⟨j0, hj0, hy0, hy1, hy2⟩ := info_parts info35
  have HJ := Lib.hid (And.intro hj0 (And.intro hy0 (And.intro hy1 hy2)))
  clear h hc hi0 hz0 hz1 hz2 hW hfn hj0 hy0 hy1 hy2
  go_enter Try.func20, Try.ntmps20
  go_wp2_with fail
  refine hI.mono ?_
  rintro e w2 ⟨rfl, o2⟩
  clear hI
  go_wp2_with fail
  have hB0 := heap_alloc_new w2 (.cells #[.slice none 0 0] 49)
  have hO0 := o2.alloc (.cells #[.slice none 0 0] 49)
  have hw2 := o2.size
  generalize w2.alloc (.cells #[.slice none 0 0] 49) = W2 at *
  generalize hqb : w2.heap.size = qb at *
  have HQ := Lib.hid hqb
  clear hqb
  go_loopw [20] (fun iv wr => ∃ (k : Nat) (v : Value), k ≤ l.length ∧ iv = .int .i64 k ∧ wr.heap[qb]? = some (.cells #[v] 49 (0, 0)) ∧ wr.ownsRow w.heap.size 51 5 v k (flatP (placeF 0 (l.take k))) ∧ Only (fun _ => False) w wr) (fun iv _ => l.length - (intOf iv).toNat)
  case atStart => exact ⟨0, _, Nat.zero_le _, rfl, hB0, World.ownsRow_nil _ _ _ _, hO0⟩
  case round =>
    obtain ⟨k, v, hk, rfl, hB, hO, o⟩ := hrel
    by_cases hlt : k < l.length
    · obtain ⟨b, off, ha, g0, g1, g2, g3⟩ := (HA.out.onlyF o) k hlt
      subst ha
      have hn := Lib.hid (placeF_next l k hlt)
      generalize l.getD k Cd.zero = x at *
      have hqc : wr.cell? ⟨qb, 0, none⟩ = some v := by simp [World.cell?, hB]
      have hqf : wr.frozen? ⟨qb, 0, none⟩ = false := by simp [World.frozen?, hB]
      have hqlt : qb < wr.heap.size := (Array.getElem?_eq_some_iff.1 hB).1
      have hne : v.ownBlock ≠ some qb := own_ne hO hB
      have hw0 : w.heap.size ≤ wr.heap.size := o.size
      have HO := Lib.hid hO
      have HB := Lib.hid hB
      have HNe := Lib.hid hne
      clear hO hB hne
      go_wp2_with (at_builtin; refine wpList_append_lies _ rfl (.tmp 25) (.tmp 29) 49 rfl w.heap.size 51 i0 _ 5 40 Try.underlying49 HI.out.1 HI.out.2.1 HI.out.2.2.1 HI.out.2.2.2 rfl (by omega) v k _ rfl ((HO.out.alloc _).alloc _) ⟨wr.heap.size + 1, 0, none⟩ 1 1 [.int .i64 x.seg, .int .i64 x.live, .int .i64 x.cap, .int .i64 x.age, .int .i64 k] (by rfl) (by rfl) (World.news_of_block (cs := #[.int .i64 x.seg, .int .i64 x.live, .int .i64 x.cap, .int .i64 x.age, .int .i64 k]) (t := 51) (fr := (0, 0)) (alloc2_new wr _ _)) (by simp [Value.oneCell']) (by omega) (by unfold maxLen; omega) (by omega) (size2_le hw0) _ rfl ?_; intro g gc w5 hown5 hg5 hat5 hlt5; have hB5 := (far2 hg5 hqlt HNe.out).trans HB.out; have hqc5 := one_cell hB5; have hqf5 := one_free hB5)
      go_roundw
      case rel =>
        have hown6 : w5.ownsRow w.heap.size 51 5 (.slice (some ⟨g, 0, none⟩) (k + 1) gc) (k + 1) (flatP (placeF 0 (l.take (k + 1)))) := by
          rw [hn.out, flatP_append]; exact hown5
        obtain ⟨r1, r2, r3⟩ := fill_round o hw2 HO.out hg5 hown6 hB5
        exact ⟨k + 1, _, by omega, by go_num, r1, r2, r3⟩
      case measure => simp [intOf]; omega
    · obtain rfl : k = l.length := by omega
      obtain ⟨g, gc, rfl, -, -⟩ := hO.form h0
      have hgc : l.length ≤ gc ∧ gc ≤ maxLen := by
        rcases hO.2 with ⟨h1, _⟩ | ⟨g', cap', cur, h1, _, _, h2, h3, _⟩
        · simp at h1
        · simp at h1; obtain ⟨_, rfl⟩ := h1; exact ⟨h2, h3⟩
      have hPl : PlAt wr g (placeF 0 l) := by
        rcases hO.2 with ⟨h1, _⟩ | ⟨g', cap', cur, h1, _, h4, _, _, _, h5⟩
        · simp at h1
        · simp at h1; obtain ⟨rfl, rfl⟩ := h1; exact ⟨cur, h4, by rw [placeF_length, h5, List.take_length]⟩
      have hQ : QAt wr qb g gc (placeF 0 l) := ⟨by rw [placeF_length]; exact hB, hPl, HGd.out⟩
      have hgB : w.heap.size ≤ g := (hO.lt g rfl).1
      have hIn := init_any hQ (by rw [placeF_length]; exact hL)
      clear hO hB hPl hQ
      go_wp2_with fail
      refine hIn.mono ?_
      rintro e w3 ⟨rfl, q3, o3⟩
      clear hIn
      go_wp2_with fail
      have HEq : Hid (firstF W l = runF W l.length (initF (l.length / 2) (placeF 0 l) l.length) [] 0) := rfl
      rw [placeF_length] at q3
      have HLn : Hid ((initF (l.length / 2) (placeF 0 l) l.length).length = l.length) := by
        have := len_initF (l.length / 2) (placeF 0 l) l.length
        rw [placeF_length] at this
        exact this
      have o4 := o.over o3 (fun k hk => by subst hk; exact hgB)
      have HGc := Lib.hid hgc
      clear hgc o3 o hO0 hB0
      generalize initF (l.length / 2) (placeF 0 l) l.length = Q0 at *
      go_loopw [10, 11] (fun v rv wr => ∃ (m : Nat) (Q : List Pl) (out : List Cd) (room : Int), rv = .int .i64 room ∧ m + out.length = l.length ∧ 0 ≤ room ∧ room ≤ 64 * out.length ∧ Hid (firstF W l = runF W m Q out room) ∧ Hid (Q.length = m) ∧ QAt wr qb g gc Q ∧ wr.ownsRow w.heap.size 35 4 v out.length (flatC out) ∧ Only (fun _ => False) w wr) (fun v _ _ => l.length - lenV v)
      case atStart => exact ⟨l.length, Q0, [], 0, rfl, by simp, by omega, by simp, HEq, HLn, q3, World.ownsRow_nil _ _ _ _, o4⟩
      case round =>
        obtain ⟨m, Q, out, room, rfl, hm, hr0, hr1, hE, hQl, q5, hO, o5⟩ := hrel
        obtain ⟨A, c, rfl⟩ := own_slice hO
        have hqc := q5.cell
        have hlen : out.length ≤ 512 := by omega
        have hCl := clip_any (by omega) hO
        have HCl := Lib.hid hCl
        clear hCl
        cases m with
        | zero =>
          rw [hQl.out] at hqc
          have HR : Hid (firstF W l = out) := hE.out
          go_wp2_with (go_at_call 28; refine (len_any _ _ _).mono ?_; rintro e w' ⟨rfl, rfl⟩)
          refine HCl.out.mono ?_
          rintro e w6 ⟨v', rfl, hv', rfl⟩
          go_wp2_with fail
          go_ret2
          exact ⟨v', rfl, by rw [HR.out]; exact hv', o5⟩
        | succ m =>
          have hWc := HW.out wr out.length room o5
          cases hw : W out.length room with
          | false =>
            have HR : Hid (firstF W l = out) := hE.out.trans (if_neg (by rw [hw]; decide))
            rw [hw] at hWc
            rw [hQl.out] at hqc
            clear hw
            rcases HFn.out with rfl | rfl
            all_goals
              go_wp2_with (first | (go_at_call 28; refine (len_any _ _ _).mono ?_; rintro e w' ⟨rfl, rfl⟩) | (go_at_call 21; refine hWc.mono ?_; rintro e w' ⟨rfl, rfl⟩) | (go_at_call 26; refine hWc.mono ?_; rintro e w' ⟨rfl, rfl⟩))
              refine HCl.out.mono ?_
              rintro e w6 ⟨v', rfl, hv', rfl⟩
              go_wp2_with fail
              go_ret2
              exact ⟨v', rfl, by rw [HR.out]; exact hv', o5⟩
          | true =>
            have HR : Hid (firstF W l = runF W m ((popF Q m).take m) (out ++ [(elt (popF Q m) m).c]) (room + ((elt (popF Q m) m).c.cap - (elt (popF Q m) m).c.live))) := hE.out.trans (if_pos hw)
            have hPp := hpop_any (m := m) q5 (by rw [hQl.out]; omega) hQl.out (by have := HGc.out.1; rw [hQl.out]; omega) HGc.out.2
            have hG := gd_pop hQl.out q5.good
            have HLn2 : Hid (((popF Q m).take m).length = m) := by
              have : (popF Q m).length = m + 1 := by unfold popF; rw [len_downF, len_swapQ]; exact hQl.out
              show ((popF Q m).take m).length = m
              rw [List.length_take, this]
              omega
            rw [hw] at hWc
            rw [hQl.out] at hqc
            generalize hx : elt (popF Q m) m = x at *
            clear hx hw
            obtain ⟨x1, x2, x3, x4, x5, x6⟩ := hG
            have HPp := Lib.hid hPp
            have HO := Lib.hid hO
            clear hPp hO
            rcases HFn.out with rfl | rfl
            all_goals
              go_wp2_with (first | (go_at_call 28; refine (len_any _ _ _).mono ?_; rintro e w' ⟨rfl, rfl⟩) | (go_at_call 21; refine hWc.mono ?_; rintro e w' ⟨rfl, rfl⟩) | (go_at_call 26; refine hWc.mono ?_; rintro e w' ⟨rfl, rfl⟩))
              refine HPp.out.mono ?_
              rintro e w3 ⟨rfl, q6, o6⟩
              have HRd := Lib.hid (pop_round (A := .cells #[.int .i64 x.c.seg, .int .i64 x.c.live, .int .i64 x.c.cap, .int .i64 x.c.age] 35) (B := .cells #[.int .i64 x.c.seg, .int .i64 x.c.live, .int .i64 x.c.cap, .int .i64 x.c.age] 35) o5 HO.out q5 hw2 hgB o6 q6)
              have hw30 : w.heap.size ≤ w3.heap.size := Nat.le_trans o5.size o6.size
              have hta := fun (v : Value) => assert51 v w3
              have hfd := field51 x w3
              go_wp2_with (at_builtin; refine wpList_append_lies _ rfl (.tmp 48) (.tmp 50) 22 rfl w.heap.size 35 j0 _ 4 32 Try.underlying22 HJ.out.1 HJ.out.2.1 HJ.out.2.2.1 HJ.out.2.2.2 rfl (by omega) (.slice A out.length c) out.length _ rfl ((HRd.out.1.alloc _).alloc _) ⟨w3.heap.size + 1, 0, none⟩ 1 1 [.int .i64 x.c.seg, .int .i64 x.c.live, .int .i64 x.c.cap, .int .i64 x.c.age] (by rfl) (by rfl) (World.news_of_block (cs := #[.int .i64 x.c.seg, .int .i64 x.c.live, .int .i64 x.c.cap, .int .i64 x.c.age]) (t := 35) (fr := (0, 0)) (alloc2_new w3 _ _)) (by simp [Value.oneCell']) (by omega) (by unfold maxLen; omega) (by omega) (size2_le hw30) _ rfl ?_; intro g9 gc9 w5 hown5 hg5 hat5 hlt5; obtain ⟨p0, p1, p2, p3⟩ := four (HRd.out.2.2 _ hg5).1)
              obtain ⟨-, q7, o7⟩ := HRd.out.2.2 _ hg5
              have hown6 : w5.ownsRow w.heap.size 35 4 (.slice (some ⟨g9, 0, none⟩) (out.length + 1) gc9) (out ++ [x.c]).length (flatC (out ++ [x.c])) := by
                rw [flatC_append, List.length_append]; exact hown5
              have hll : (out ++ [x.c]).length = out.length + 1 := by simp
              go_roundw
              case rel => exact ⟨m, _, out ++ [x.c], _, rfl, by omega, by omega, by omega, HR.out, HLn2.out, q7, hown6, o7⟩
              case measure => simp [lenV]; omega

theorem load_nil {w : World} {qb : Nat} (h : w.cell? ⟨qb, 0, none⟩ = some (.slice none 0 0)) :
    (method 184 53 (.pointer (some ⟨qb, 0, none⟩)) "Len").run Try.prog w = .ok (28, .slice none 0 0) w := by
  rw [method_len']
  show ((loadVar 49 ⟨qb, 0, none⟩) >>= fun v => (pure (28, v) : Sem (FuncId × Value))).run Try.prog w = _
  rw [Sem.run_bind, load_queue h ⟨_, _, _, rfl⟩]
  rfl
theorem len_nil (w : World) : Calls Try.prog 28 #[.slice none 0 0] w fun e w' => e = .returned (.int .i64 0) ∧ w = w' := by
  go_enter Try.func28, Try.ntmps28
  go_wp2
  go_ret
  exact ⟨rfl, rfl⟩
theorem init_nil (w : World) (qb : Nat) (h : w.cell? ⟨qb, 0, none⟩ = some (.slice none 0 0)) : Calls Try.prog 27 #[.iface 53 (.pointer (some ⟨qb, 0, none⟩))] w fun e w' => e = .returned (.tuple #[]) ∧ w = w' := by
  have hm := load_nil h
  go_enter Try.func27, Try.ntmps27
  go_wp2_with (go_at_call 28; refine (len_nil _).mono ?_; rintro e w' ⟨rfl, rfl⟩)
  go_loop [3] (fun iv => iv = .int .i64 (-1)) (fun _ => 0)
  case atStart => rfl
  case round =>
    obtain rfl := hrel
    go_wp2_with fail
    go_end0
    exact ⟨rfl, rfl⟩
set_option maxHeartbeats 1000000 in
theorem first_none (a : Option Addr) (cap : Nat) (fv : Value) (W : Nat → Int → Bool) (w : World) :
    Calls Try.prog 20 #[.slice a 0 cap, fv] w (FirstRes w (firstF W [])) := by
  have hI := check_any a cap [] w (by unfold maxLen; simp) (fun k hk => by simp at hk)
  have hR : Hid (firstF W [] = []) := rfl
  simp only [List.length_nil] at hI
  rw [show chkC [] = 0 from rfl] at hI
  go_enter Try.func20, Try.ntmps20
  go_wp2_with fail
  refine hI.mono ?_
  rintro e w2 ⟨rfl, o2⟩
  clear hI
  go_wp2_with fail
  go_loop [20] (fun iv => iv = .int .i64 0) (fun _ => 0)
  case atStart => rfl
  case round =>
    obtain rfl := hrel
    go_wp2_with fail
    have hB0 := one_cell (heap_alloc_new w2 (.cells #[.slice none 0 0] 49))
    have hO0 := o2.alloc (.cells #[.slice none 0 0] 49)
    refine (init_nil _ _ hB0).mono ?_
    rintro e w' ⟨rfl, rfl⟩
    go_wp2_with fail
    go_loop [10, 11] (fun v rv => v = .slice none 0 0 ∧ rv = .int .i64 0) (fun _ _ => 0)
    case atStart => exact ⟨rfl, rfl⟩
    case round =>
      obtain ⟨rfl, rfl⟩ := hrel
      go_wp2_with (go_at_call 28; refine (len_nil _).mono ?_; rintro e w' ⟨rfl, rfl⟩)
      refine (clip_any (B := w.heap.size) (l := []) (by simp) (World.ownsRow_nil _ _ _ _)).mono ?_
      rintro e w6 ⟨v', rfl, hv', rfl⟩
      go_wp2_with fail
      go_ret2
      exact ⟨v', rfl, by rw [hR.out]; exact hv', hO0⟩
end Go.Proofs.Ytojhleijpcghoaa
