/-
  The walks of pick's Better and of its queue's methods: what each answers on a queue in memory. Conditions: candidates within their bounds, the queue's facts.
-/
import Derived.Test.YtojhleijpcghoaaCmp
namespace Go.Proofs.Ytojhleijpcghoaa
open Go.RowKit
set_option linter.unusedVariables false

def betC (x y : Cd) : Bool := decide (cmpC x y < 0)
theorem better_any (x y : Cd) (w : World) (hx : Gd x) (hy : Gd y) :
    Calls Try.prog 16 #[.agg #[.int .i64 x.seg, .int .i64 x.live, .int .i64 x.cap, .int .i64 x.age], .agg #[.int .i64 y.seg, .int .i64 y.live, .int .i64 y.cap, .int .i64 y.age]] w fun e w' =>
      e = .returned (.bool (betC x y)) ∧ Only (fun _ => False) w w' := by
  unfold betC
  have hC := compare_any x y ((w.alloc (.cells #[.int .i64 x.seg, .int .i64 x.live, .int .i64 x.cap, .int .i64 x.age] 35)).alloc (.cells #[.int .i64 y.seg, .int .i64 y.live, .int .i64 y.cap, .int .i64 y.age] 35)) hx hy
  go_enter Try.func16, Try.ntmps16
  go_wp2_with fail
  refine hC.mono ?_
  rintro e w' ⟨rfl, o⟩
  clear hC
  go_wp2_with fail
  go_ret
  exact ⟨rfl, (((Only.refl _ _).alloc _).alloc _).trans o⟩

/-! ### The queue in memory -/
/-- A candidate and the place at which it came. -/
structure Pl where
  c : Cd
  at_ : Int

def Pl.zero : Pl := ⟨Cd.zero, 0⟩
def elt (Q : List Pl) (i : Nat) : Pl := Q.getD i Pl.zero
def Pl.cells (x : Pl) : List Value := [.int .i64 x.c.seg, .int .i64 x.c.live, .int .i64 x.c.cap, .int .i64 x.c.age, .int .i64 x.at_]
def flatP : List Pl → List Value
  | [] => []
  | x :: Q => .int .i64 x.c.seg :: .int .i64 x.c.live :: .int .i64 x.c.cap :: .int .i64 x.c.age :: .int .i64 x.at_ :: flatP Q
theorem flatP_length (Q : List Pl) : (flatP Q).length = Q.length * 5 := by
  induction Q with
  | nil => rfl
  | cons s Q ih => simp [flatP, ih]; omega
theorem flatP_append (A B : List Pl) : flatP (A ++ B) = flatP A ++ flatP B := by
  induction A with
  | nil => rfl
  | cons s A ih => simp [flatP, ih]
theorem flatP_at (Q : List Pl) : ∀ i, i < Q.length →
    (flatP Q)[i * 5]? = some (.int .i64 (elt Q i).c.seg) ∧ (flatP Q)[i * 5 + 1]? = some (.int .i64 (elt Q i).c.live) ∧ (flatP Q)[i * 5 + 2]? = some (.int .i64 (elt Q i).c.cap) ∧
    (flatP Q)[i * 5 + 3]? = some (.int .i64 (elt Q i).c.age) ∧ (flatP Q)[i * 5 + 4]? = some (.int .i64 (elt Q i).at_) := by
  induction Q with
  | nil => intro i h; simp at h
  | cons s Q ih =>
    intro i h
    cases i with
    | zero => simp [flatP, elt]
    | succ i =>
      have := ih i (by simpa using h)
      rw [show (i + 1) * 5 = i * 5 + 5 from by omega, show i * 5 + 5 + 1 = i * 5 + 1 + 5 from by omega, show i * 5 + 5 + 2 = i * 5 + 2 + 5 from by omega, show i * 5 + 5 + 3 = i * 5 + 3 + 5 from by omega,
        show i * 5 + 5 + 4 = i * 5 + 4 + 5 from by omega]
      simpa [flatP, elt] using this
/-- One element put anew: five stores. -/
theorem flatP_set (Q : List Pl) (x : Pl) : ∀ i, i < Q.length →
    (((((flatP Q).set (i * 5) (.int .i64 x.c.seg)).set (i * 5 + 1) (.int .i64 x.c.live)).set (i * 5 + 2) (.int .i64 x.c.cap)).set (i * 5 + 3) (.int .i64 x.c.age)).set (i * 5 + 4) (.int .i64 x.at_) = flatP (Q.set i x) := by
  induction Q with
  | nil => intro i h; simp at h
  | cons s Q ih =>
    intro i h
    cases i with
    | zero => simp [flatP]
    | succ i =>
      have := ih i (by simpa using h)
      rw [show (i + 1) * 5 = i * 5 + 5 from by omega, show i * 5 + 5 + 1 = i * 5 + 1 + 5 from by omega, show i * 5 + 5 + 2 = i * 5 + 2 + 5 from by omega, show i * 5 + 5 + 3 = i * 5 + 3 + 5 from by omega,
        show i * 5 + 5 + 4 = i * 5 + 4 + 5 from by omega]
      simpa [flatP] using this

/-- The first cells of block g are the queue's. -/
def PlAt (w : World) (g : Nat) (Q : List Pl) : Prop := ∃ cur, w.heap[g]? = some (.cells cur 51) ∧ cur.toList.take (Q.length * 5) = flatP Q
section
variable {w : World} {g : Nat} {Q : List Pl}
theorem PlAt.lt (h : PlAt w g Q) : g < w.heap.size := by
  obtain ⟨cur, h1, _⟩ := h
  exact (Array.getElem?_eq_some_iff.1 h1).1
theorem PlAt.cellAt (h : PlAt w g Q) (j : Nat) (hj : j < Q.length * 5) : w.cell? ⟨g, j, none⟩ = (flatP Q)[j]? := by
  obtain ⟨cur, h1, h2⟩ := h
  have h3 : cur.toList[j]? = (flatP Q)[j]? := by rw [← h2, List.getElem?_take_of_lt hj]
  simp [World.cell?, h1, ← h3]
theorem PlAt.free (h : PlAt w g Q) (j : Nat) : w.frozen? ⟨g, j, none⟩ = false := by
  obtain ⟨cur, h1, _⟩ := h
  simp [World.frozen?, h1]
theorem PlAt.of {w' : World} (h : PlAt w g Q) (e : w'.heap[g]? = w.heap[g]?) : PlAt w' g Q := by
  obtain ⟨cur, h1, h2⟩ := h
  exact ⟨cur, e.trans h1, h2⟩
theorem PlAt.drew (h : PlAt w g Q) : PlAt w.drew g Q := h
theorem PlAt.only {w' : World} {S : Nat → Prop} (h : PlAt w g Q) (o : Only S w w') (hS : ¬ S g) : PlAt w' g Q := h.of (o.block g h.lt hS)
theorem PlAt.onlyF {w' : World} (h : PlAt w g Q) (o : Only (fun _ => False) w w') : PlAt w' g Q := h.only o (fun x => x)
theorem PlAt.alloc (h : PlAt w g Q) (o : Obj) : PlAt (w.alloc o) g Q := h.of (Below.heap_alloc _ _ _ h.lt)
theorem PlAt.five (h : PlAt w g Q) (i : Nat) (hi : i < Q.length) :
    w.cell? ⟨g, i * 5, none⟩ = some (.int .i64 (elt Q i).c.seg) ∧ w.cell? ⟨g, i * 5 + 1, none⟩ = some (.int .i64 (elt Q i).c.live) ∧ w.cell? ⟨g, i * 5 + 2, none⟩ = some (.int .i64 (elt Q i).c.cap) ∧
    w.cell? ⟨g, i * 5 + 3, none⟩ = some (.int .i64 (elt Q i).c.age) ∧ w.cell? ⟨g, i * 5 + 4, none⟩ = some (.int .i64 (elt Q i).at_) := by
  obtain ⟨h0, h1, h2, h3, h4⟩ := flatP_at Q i hi
  rw [h.cellAt _ (by omega), h.cellAt _ (by omega), h.cellAt _ (by omega), h.cellAt _ (by omega), h.cellAt _ (by omega)]
  exact ⟨h0, h1, h2, h3, h4⟩
/-- A world behind five stores. -/
def put5 (w : World) (g i : Nat) (x : Pl) : World :=
  ((((w.setCell ⟨g, i * 5, none⟩ (.int .i64 x.c.seg)).setCell ⟨g, i * 5 + 1, none⟩ (.int .i64 x.c.live)).setCell ⟨g, i * 5 + 2, none⟩ (.int .i64 x.c.cap)).setCell ⟨g, i * 5 + 3, none⟩ (.int .i64 x.c.age)).setCell ⟨g, i * 5 + 4, none⟩ (.int .i64 x.at_)
theorem PlAt.put (h : PlAt w g Q) (i : Nat) (hi : i < Q.length) (x : Pl) : PlAt (put5 w g i x) g (Q.set i x) := by
  obtain ⟨cur, h1, h2⟩ := h
  have s1 := heap_setCell_same w g (i * 5) (.int .i64 x.c.seg) _ _ _ h1
  have s2 := heap_setCell_same _ g (i * 5 + 1) (.int .i64 x.c.live) _ _ _ s1
  have s3 := heap_setCell_same _ g (i * 5 + 2) (.int .i64 x.c.cap) _ _ _ s2
  have s4 := heap_setCell_same _ g (i * 5 + 3) (.int .i64 x.c.age) _ _ _ s3
  have s5 := heap_setCell_same _ g (i * 5 + 4) (.int .i64 x.at_) _ _ _ s4
  refine ⟨_, s5, ?_⟩
  rw [← flatP_set Q x i hi, List.length_set, ← h2]
  simp only [Array.toList_setIfInBounds, List.take_set]
theorem PlAt.poke {k : Nat} (h : PlAt w g Q) (hk : ¬ k = g) (j : Nat) (v : Value) : PlAt (w.setCell ⟨k, j, none⟩ v) g Q :=
  h.of (Below.heap_setCell _ _ _ _ (fun e => hk e.symm))
theorem put5_other {k : Nat} (i : Nat) (x : Pl) (hk : ¬ k = g) : (put5 w g i x).heap[k]? = w.heap[k]? := by
  unfold put5
  rw [Below.heap_setCell _ _ _ _ hk, Below.heap_setCell _ _ _ _ hk, Below.heap_setCell _ _ _ _ hk, Below.heap_setCell _ _ _ _ hk, Below.heap_setCell _ _ _ _ hk]
theorem put5_only {S : Nat → Prop} {a : World} (i : Nat) (x : Pl) (h : Only S a w) (hg : S g ∨ a.heap.size ≤ g) : Only S a (put5 w g i x) :=
  ((((h.setCell (q := ⟨g, i * 5, none⟩) hg _).setCell (q := ⟨g, i * 5 + 1, none⟩) hg _).setCell (q := ⟨g, i * 5 + 2, none⟩) hg _).setCell (q := ⟨g, i * 5 + 3, none⟩) hg _).setCell (q := ⟨g, i * 5 + 4, none⟩) hg _
end

/-! ### Less -/
def cmpP (x y : Pl) : Int := orI (cmpC x.c y.c) (cmpI x.at_ y.at_)
def lessP (x y : Pl) : Bool := decide (cmpP x y < 0)
theorem or2 (a b : Int) (w : World) : Calls Try.prog 32 #[.slice (some ⟨w.heap.size, 0, none⟩) 2 2] (w.alloc (.cells #[.int .i64 a, .int .i64 b] 3)) fun e w' =>
    e = .returned (.int .i64 (orI a b)) ∧ (w.alloc (.cells #[.int .i64 a, .int .i64 b] 3)) = w' := by
  have h := or_any [a, b] w.heap.size 2 (w.alloc (.cells #[.int .i64 a, .int .i64 b] 3)) (by simp) (by
    intro j hj
    match j, hj with
    | 0, _ => simp
    | 1, _ => simp
    | j + 2, hj => simp at hj; omega)
  have e : firstNz [a, b] = orI a b := by
    unfold firstNz orI
    by_cases h : a = 0
    · rw [if_pos h, if_pos h]
      unfold firstNz
      by_cases h2 : b = 0
      · rw [if_pos h2, h2]; rfl
      · rw [if_neg h2]
    · rw [if_neg h, if_neg h]
  rw [e] at h
  exact h

set_option maxRecDepth 100000 in
set_option maxHeartbeats 4000000 in
theorem less_any {w : World} {g : Nat} {Q : List Pl} (cap i j : Nat) (h : PlAt w g Q) (hi : i < Q.length) (hj : j < Q.length) (hL : Q.length ≤ 512) (h1 : Gd (elt Q i).c) (h2 : Gd (elt Q j).c) :
    Calls Try.prog 52 #[.slice (some ⟨g, 0, none⟩) Q.length cap, .int .i64 i, .int .i64 j] w fun e w' =>
      e = .returned (.bool (lessP (elt Q i) (elt Q j))) ∧ Only (fun _ => False) w w' := by
  obtain ⟨x0, x1, x2, x3, x4⟩ := h.five i hi
  obtain ⟨y0, y1, y2, y3, y4⟩ := h.five j hj
  have b1 := h.lt
  unfold lessP cmpP
  go_enter Try.func52, Try.ntmps52
  go_wp2_with fail
  have hb : g < w.drew.heap.size := b1
  go_region_held3 (fun w' => w'.cell? ⟨g, i * 5, none⟩ = some (.int .i64 (elt Q i).c.seg) ∧ w'.cell? ⟨g, i * 5 + 1, none⟩ = some (.int .i64 (elt Q i).c.live) ∧ w'.cell? ⟨g, i * 5 + 2, none⟩ = some (.int .i64 (elt Q i).c.cap) ∧ w'.cell? ⟨g, i * 5 + 3, none⟩ = some (.int .i64 (elt Q i).c.age) ∧ w'.cell? ⟨g, i * 5 + 4, none⟩ = some (.int .i64 (elt Q i).at_) ∧
      w'.cell? ⟨g, j * 5, none⟩ = some (.int .i64 (elt Q j).c.seg) ∧ w'.cell? ⟨g, j * 5 + 1, none⟩ = some (.int .i64 (elt Q j).c.live) ∧ w'.cell? ⟨g, j * 5 + 2, none⟩ = some (.int .i64 (elt Q j).c.cap) ∧ w'.cell? ⟨g, j * 5 + 3, none⟩ = some (.int .i64 (elt Q j).c.age) ∧ w'.cell? ⟨g, j * 5 + 4, none⟩ = some (.int .i64 (elt Q j).at_)) (go_keep)
    (first | (go_at_call 25; refine (compare_any _ _ _ h1 h2).mono ?_; rintro e w' ⟨rfl, o'⟩; obtain ⟨z0, z1, z2, z3, z4⟩ := (PlAt.onlyF (w := w.drew) h o').five i hi; obtain ⟨u0, u1, u2, u3, u4⟩ := (PlAt.onlyF (w := w.drew) h o').five j hj) | (go_at_call 33; refine (cmp_any _ _ _).mono ?_; rintro e w' ⟨rfl, rfl⟩) | (go_at_call 32; refine (or2 _ _ _).mono ?_; rintro e w' ⟨rfl, rfl⟩))
  all_goals
    go_wp2_with fail
    go_ret
    exact ⟨rfl, (((Only.refl _ w).drew).trans (by assumption)).alloc _⟩

/-! ### Swap -/
def swapQ (Q : List Pl) (i j : Nat) : List Pl := (Q.set i (elt Q j)).set j (elt Q i)

set_option maxRecDepth 100000 in
set_option maxHeartbeats 4000000 in
theorem swap_ne {w : World} {g : Nat} {Q : List Pl} (cap i j : Nat) (h : PlAt w g Q) (hi : i < Q.length) (hj : j < Q.length) (hL : Q.length ≤ 512) (hij : i ≠ j) :
    Calls Try.prog 53 #[.slice (some ⟨g, 0, none⟩) Q.length cap, .int .i64 i, .int .i64 j] w fun e w' =>
      e = .returned (.tuple #[]) ∧ PlAt w' g (swapQ Q i j) ∧ Only (fun k => k = g) w w' := by
  obtain ⟨x0, x1, x2, x3, x4⟩ := h.five i hi
  obtain ⟨y0, y1, y2, y3, y4⟩ := h.five j hj
  have f0 := h.free
  have n0 : ¬ i = j := hij
  have n1 : ¬ j = i := fun e => hij e.symm
  go_enter Try.func53, Try.ntmps53
  go_wp2_with fail
  go_region
  go_wp2_with fail
  go_end0
  have h2 := ((h.put i hi (elt Q j)).put j (by simpa using hj) (elt Q i)).drew
  have o2 := (put5_only (S := fun k => k = g) j (elt Q i) (put5_only i (elt Q j) (Only.refl _ w) (.inl rfl)) (.inl rfl)).drew
  unfold put5 at h2 o2
  exact ⟨rfl, h2, o2⟩

theorem set_elt (Q : List Pl) (i : Nat) : Q.set i (elt Q i) = Q := by
  by_cases h : i < Q.length
  · simp [elt, h]
  · rw [List.set_eq_of_length_le (by omega)]

end Go.Proofs.Ytojhleijpcghoaa
