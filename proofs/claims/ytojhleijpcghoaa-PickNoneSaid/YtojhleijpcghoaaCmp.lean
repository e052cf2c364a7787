/-
  The walks of cmp.Compare, cmp.Or and of pick's compare and Better: what each answers. Conditions: candidates within their bounds.
-/
import Derived.Test.YtojhleijpcghoaaRows
import Derived.WalkKit
import Derived.Below
import Derived.Deep.QuietTactic
import Derived.BigQuiet
import Derived.Outline
import Derived.Lib.Hide
import Derived.RegionTactic
import Derived.BigRegion
import Derived.Deep.RegionHeld3
import Derived.Deep.RegionWith
namespace Go.Proofs.Ytojhleijpcghoaa
open Go.RowKit
set_option linter.unusedVariables false

/-- What lies in no block of S is as it was. -/
structure Only (S : Nat → Prop) (w w' : World) : Prop where
  os : w'.os = w.os
  tape : w'.tape = w.tape
  output : w'.output = w.output
  size : w.heap.size ≤ w'.heap.size
  block : ∀ k, k < w.heap.size → ¬ S k → w'.heap[k]? = w.heap[k]?
theorem Only.refl (S : Nat → Prop) (w : World) : Only S w w := ⟨rfl, rfl, rfl, Nat.le_refl _, fun _ _ _ => rfl⟩
theorem Only.trans {S : Nat → Prop} {a b d : World} (h : Only S a b) (k : Only S b d) : Only S a d :=
  ⟨k.os.trans h.os, k.tape.trans h.tape, k.output.trans h.output, Nat.le_trans h.size k.size,
    fun i hi hs => (k.block i (Nat.lt_of_lt_of_le hi h.size) hs).trans (h.block i hi hs)⟩
theorem Only.mono {S T : Nat → Prop} {w w' : World} (h : Only S w w') (hST : ∀ k, k < w.heap.size → S k → T k) : Only T w w' :=
  ⟨h.os, h.tape, h.output, h.size, fun k hk hT => h.block k hk (fun hS => hT (hST k hk hS))⟩
theorem Only.ofF {S : Nat → Prop} {w w' : World} (h : Only (fun _ => False) w w') : Only S w w' := h.mono fun _ _ x => x.elim
theorem Only.drew {S : Nat → Prop} {a w : World} (h : Only S a w) : Only S a w.drew := ⟨h.os, h.tape, h.output, h.size, h.block⟩
theorem Only.drewN {S : Nat → Prop} {a w : World} (h : Only S a w) (n : Nat) : Only S a (w.drewN n) := ⟨h.os, h.tape, h.output, h.size, h.block⟩
theorem Only.alloc {S : Nat → Prop} {a w : World} (h : Only S a w) (o : Obj) : Only S a (w.alloc o) :=
  h.trans ⟨rfl, rfl, rfl, by simp, fun k hk _ => Below.heap_alloc _ _ _ hk⟩
theorem Only.setCell {S : Nat → Prop} {a w : World} (h : Only S a w) {q : Addr} (hq : S q.block ∨ a.heap.size ≤ q.block) (u : Value) : Only S a (w.setCell q u) := by
  refine ⟨h.os, h.tape, h.output, by simpa using h.size, fun k hk hS => ?_⟩
  rw [Below.heap_setCell _ _ _ _ ?_]
  · exact h.block k hk hS
  · intro e
    subst e
    rcases hq with hq | hq
    · exact hS hq
    · omega
theorem Only.below {S : Nat → Prop} {w w' : World} {B : Nat} (h : Only S w w') (hB : B ≤ w.heap.size) (hS : ∀ k, S k → B ≤ k) : Below B w w' :=
  ⟨h.os, h.tape, h.output, h.size, fun k hk => h.block k (by omega) (fun s => by have := hS k s; omega)⟩
theorem Only.keep {S : Nat → Prop} {w w' : World} (o : Only S w w') {k : Nat} {x : Obj} (h : w.heap[k]? = some x) (hS : ¬ S k) : w'.heap[k]? = some x :=
  (o.block k (Array.getElem?_eq_some_iff.1 h).1 hS).trans h
theorem Only.grown {S : Nat → Prop} {a w w' : World} {row : Option Nat} (h : Only S a w) (hg : w.grownBy w' row) (hr : ∀ k, row = some k → a.heap.size ≤ k) : Only S a w' :=
  ⟨hg.os.trans h.os, hg.tape.trans h.tape, hg.output.trans h.output, Nat.le_trans h.size hg.size,
    fun k hk hs => (hg.block k (Nat.lt_of_lt_of_le hk h.size) (fun e => by have := hr k e.symm; omega)).trans (h.block k hk hs)⟩
theorem heap_alloc_new (w : World) (o : Obj) : (w.alloc o).heap[w.heap.size]? = some o := by
  show (w.heap.push o)[w.heap.size]? = some o
  simp
theorem heap_setCell_same (w : World) (b o : Nat) (v : Value) (cs : Array Value) (e : TypeId) (f : Nat × Nat) (h : w.heap[b]? = some (.cells cs e f)) :
    (w.setCell ⟨b, o, none⟩ v).heap[b]? = some (.cells (cs.setIfInBounds o v) e f) := by
  simp [World.setCell, Array.getElem?_modify, h]
theorem cell_alloc_old (w : World) (o : Obj) (b k : Nat) (v : Value) (h : w.cell? ⟨b, k, none⟩ = some v) : (w.alloc o).cell? ⟨b, k, none⟩ = some v := by
  rw [World.cell?_alloc_lt _ _ _ (World.block_lt_of_cell? _ _ h)]; exact h

/-! ### Candidates -/
structure Cd where
  seg : Int
  live : Int
  cap : Int
  age : Int
  deriving DecidableEq

def Cd.zero : Cd := ⟨0, 0, 0, 0⟩
def Cd.val (c : Cd) : Value := .agg #[.int .i64 c.seg, .int .i64 c.live, .int .i64 c.cap, .int .i64 c.age]

/-- Within its bounds. -/
structure Gd (c : Cd) : Prop where
  c1 : 1 ≤ c.cap
  c2 : c.cap ≤ 64
  l1 : 0 ≤ c.live
  l2 : c.live ≤ c.cap
  a1 : 0 ≤ c.age
  a2 : c.age ≤ 2147483648

/-- -1, 0, 1. -/
def cmpI (a b : Int) : Int := if a < b then -1 else if b < a then 1 else 0
def orI (a b : Int) : Int := if a = 0 then b else a
/-- The benefit of c against d's. -/
def ben (c d : Cd) : Int := (c.cap - c.live) * c.age * (d.cap + d.live)
def cmpC (c d : Cd) : Int := orI (cmpI (ben d c) (ben c d)) (orI (cmpI c.live d.live) (cmpI c.seg d.seg))

theorem four {w : World} {k : Nat} {x y z u : Value} {e : TypeId} (h : w.heap[k]? = some (.cells #[x, y, z, u] e)) :
    w.cell? ⟨k, 0, none⟩ = some x ∧ w.cell? ⟨k, 1, none⟩ = some y ∧ w.cell? ⟨k, 2, none⟩ = some z ∧ w.cell? ⟨k, 3, none⟩ = some u := by
  refine ⟨?_, ?_, ?_, ?_⟩ <;> simp [World.cell?, h]
theorem two_blocks {w w5 : World} (A B : Obj) (o : Only (fun _ => False) ((w.alloc A).alloc B) w5) : w5.heap[w.heap.size]? = some A ∧ w5.heap[w.heap.size + 1]? = some B := by
  constructor
  · rw [o.block w.heap.size (by simp; omega) (fun h => h), Below.heap_alloc _ _ _ (by simp)]
    exact heap_alloc_new w A
  · rw [o.block (w.heap.size + 1) (by simp) (fun h => h)]
    have h := heap_alloc_new (w.alloc A) B
    rw [World.size_alloc] at h
    exact h

theorem isnan_any (a : Int) (w : World) : Calls Try.prog 35 #[.int .i64 a] w fun e w' => e = .returned (.bool false) ∧ w = w' := by
  go_enter Try.func35, Try.ntmps35
  go_wp2
  go_ret
  exact ⟨by simp, rfl⟩

theorem cmp_any (a b : Int) (w : World) : Calls Try.prog 33 #[.int .i64 a, .int .i64 b] w fun e w' => e = .returned (.int .i64 (cmpI a b)) ∧ w = w' := by
  by_cases h : a < b
  · have e : cmpI a b = -1 := if_pos h
    rw [e]
    clear e
    go_enter Try.func33, Try.ntmps33
    go_wp2_with (go_at_call 35; refine (isnan_any _ _).mono ?_; rintro e w' ⟨rfl, rfl⟩)
    go_ret
    exact ⟨rfl, rfl⟩
  by_cases h2 : b < a
  · have e : cmpI a b = 1 := by rw [cmpI, if_neg h, if_pos h2]
    rw [e]
    clear e
    go_enter Try.func33, Try.ntmps33
    go_wp2_with (go_at_call 35; refine (isnan_any _ _).mono ?_; rintro e w' ⟨rfl, rfl⟩)
    go_ret
    exact ⟨rfl, rfl⟩
  · have e : cmpI a b = 0 := by rw [cmpI, if_neg h, if_neg h2]
    rw [e]
    clear e
    go_enter Try.func33, Try.ntmps33
    go_wp2_with (go_at_call 35; refine (isnan_any _ _).mono ?_; rintro e w' ⟨rfl, rfl⟩)
    go_ret
    exact ⟨rfl, rfl⟩

/-- The first of a list that isn't 0. -/
def firstNz : List Int → Int
  | [] => 0
  | a :: l => if a = 0 then firstNz l else a

theorem or_any (l : List Int) (g cap : Nat) (w : World) (hl : l.length ≤ 9) (hc : ∀ j, j < l.length → w.cell? ⟨g, j, none⟩ = some (.int .i64 (l.getD j 0))) :
    Calls Try.prog 32 #[.slice (some ⟨g, 0, none⟩) l.length cap] w fun e w' => e = .returned (.int .i64 (firstNz l)) ∧ w = w' := by
  have HC := Lib.hid hc
  clear hc
  go_enter Try.func32, Try.ntmps32
  go_wp2
  go_loop [8] (fun i => ∃ k : Nat, k ≤ l.length ∧ i = .int .i64 k ∧ Hid (firstNz l = firstNz (l.drop k))) (fun i => l.length - (intOf i).toNat)
  case atStart => exact ⟨0, Nat.zero_le _, rfl, rfl⟩
  case round =>
    obtain ⟨k, hk, rfl, hz⟩ := hrel
    by_cases hlt : k < l.length
    · have h0 := HC.out k hlt
      have hd : l.drop k = l.getD k 0 :: l.drop (k + 1) := by rw [List.drop_eq_getElem_cons hlt]; simp [List.getD, hlt]
      have hz' := hz.out
      rw [hd] at hz'
      clear hd
      generalize l.getD k 0 = a at h0 hz'
      by_cases ha : a = 0
      · have hb : (a != 0) = false := by simpa using ha
        have e : firstNz l = firstNz (l.drop (k + 1)) := by rw [hz']; exact if_pos ha
        have E := Lib.hid e
        clear e hz' ha hz
        go_wp2
        go_round
        case rel => exact ⟨k + 1, by omega, by go_num, E.out⟩
        case measure => simp [intOf]; omega
      · have hb : (a != 0) = true := by simpa using ha
        have e : firstNz l = a := by rw [hz']; exact if_neg ha
        have E := Lib.hid e
        clear e hz' ha hz
        go_wp2
        go_ret
        exact ⟨by rw [E.out]; rfl, rfl⟩
    · have e : firstNz l = 0 := by rw [hz.out, List.drop_eq_nil_of_le (by omega)]; rfl
      have E := Lib.hid e
      clear e hz
      go_wp2
      go_ret
      exact ⟨by rw [E.out]; rfl, rfl⟩

theorem firstNz3 (a b c : Int) : firstNz [a, b, c] = orI a (orI b c) := by
  unfold firstNz orI
  by_cases h : a = 0
  · rw [if_pos h, if_pos h]
    unfold firstNz
    by_cases h2 : b = 0
    · rw [if_pos h2, if_pos h2]
      unfold firstNz
      by_cases h3 : c = 0
      · rw [if_pos h3, h3]; rfl
      · rw [if_neg h3]
    · rw [if_neg h2, if_neg h2]
  · rw [if_neg h, if_neg h]

theorem or3 (a b c : Int) (w : World) : Calls Try.prog 32 #[.slice (some ⟨w.heap.size, 0, none⟩) 3 3] (w.alloc (.cells #[.int .i64 a, .int .i64 b, .int .i64 c] 3)).drew fun e w' =>
    e = .returned (.int .i64 (orI a (orI b c))) ∧ (w.alloc (.cells #[.int .i64 a, .int .i64 b, .int .i64 c] 3)).drew = w' := by
  have h := or_any [a, b, c] w.heap.size 3 ((w.alloc (.cells #[.int .i64 a, .int .i64 b, .int .i64 c] 3)).drew) (by simp) (by
    intro j hj
    match j, hj with
    | 0, _ => simp
    | 1, _ => simp
    | 2, _ => simp
    | j + 3, hj => simp at hj; omega)
  rw [firstNz3] at h
  exact h

theorem mul_bd {a b : Int} {m n : Int} (ha : 0 ≤ a) (ha2 : a ≤ m) (hb : 0 ≤ b) (hb2 : b ≤ n) : 0 ≤ a * b ∧ a * b ≤ m * n :=
  ⟨Int.mul_nonneg ha hb, Int.mul_le_mul ha2 hb2 hb (by omega)⟩

set_option maxRecDepth 100000 in
set_option maxHeartbeats 4000000 in
theorem compare_any (x y : Cd) (w : World) (hx : Gd x) (hy : Gd y) :
    Calls Try.prog 25 #[.agg #[.int .i64 x.seg, .int .i64 x.live, .int .i64 x.cap, .int .i64 x.age], .agg #[.int .i64 y.seg, .int .i64 y.live, .int .i64 y.cap, .int .i64 y.age]] w fun e w' =>
      e = .returned (.int .i64 (cmpC x y)) ∧ Only (fun _ => False) w w' := by
  obtain ⟨xc1, xc2, xl1, xl2, xa1, xa2⟩ := hx
  obtain ⟨yc1, yc2, yl1, yl2, ya1, ya2⟩ := hy
  unfold cmpC ben
  obtain ⟨xs, xl, xc, xa⟩ := x
  obtain ⟨ys, yl, yc, ya⟩ := y
  simp only at *
  have m1 := mul_bd (a := yc - yl) (b := ya) (m := 64) (n := 2147483648) (by omega) (by omega) ya1 ya2
  have m2 := mul_bd (a := (yc - yl) * ya) (b := xc + xl) (m := 64 * 2147483648) (n := 128) m1.1 m1.2 (by omega) (by omega)
  have m3 := mul_bd (a := xc - xl) (b := xa) (m := 64) (n := 2147483648) (by omega) (by omega) xa1 xa2
  have m4 := mul_bd (a := (xc - xl) * xa) (b := yc + yl) (m := 64 * 2147483648) (n := 128) m3.1 m3.2 (by omega) (by omega)
  have e1 : IntKind.i64.wrap (yc - yl) = yc - yl := IntWalk.i64_in _ (by omega)
  have e2 : IntKind.i64.wrap ((yc - yl) * ya) = (yc - yl) * ya := IntWalk.i64_in _ (by omega)
  have e3 : IntKind.i64.wrap (xc + xl) = xc + xl := IntWalk.i64_in _ (by omega)
  have e4 : IntKind.i64.wrap ((yc - yl) * ya * (xc + xl)) = (yc - yl) * ya * (xc + xl) := IntWalk.i64_in _ (by omega)
  have e5 : IntKind.i64.wrap (xc - xl) = xc - xl := IntWalk.i64_in _ (by omega)
  have e6 : IntKind.i64.wrap ((xc - xl) * xa) = (xc - xl) * xa := IntWalk.i64_in _ (by omega)
  have e7 : IntKind.i64.wrap (yc + yl) = yc + yl := IntWalk.i64_in _ (by omega)
  have e8 : IntKind.i64.wrap ((xc - xl) * xa * (yc + yl)) = (xc - xl) * xa * (yc + yl) := IntWalk.i64_in _ (by omega)
  clear m1 m2 m3 m4
  go_enter Try.func25, Try.ntmps25
  go_wp2_with fail
  obtain ⟨B0, B1⟩ := two_blocks (w := w) (.cells #[.int .i64 xs, .int .i64 xl, .int .i64 xc, .int .i64 xa] 35) (.cells #[.int .i64 ys, .int .i64 yl, .int .i64 yc, .int .i64 ya] 35) (Only.refl _ _)
  have oW : Only (fun _ => False) w ((w.alloc (.cells #[.int .i64 xs, .int .i64 xl, .int .i64 xc, .int .i64 xa] 35)).alloc (.cells #[.int .i64 ys, .int .i64 yl, .int .i64 yc, .int .i64 ya] 35)) := ((Only.refl _ _).alloc _).alloc _
  generalize (w.alloc (.cells #[.int .i64 xs, .int .i64 xl, .int .i64 xc, .int .i64 xa] 35)).alloc (.cells #[.int .i64 ys, .int .i64 yl, .int .i64 yc, .int .i64 ya] 35) = W at *
  obtain ⟨p0, p1, p2, p3⟩ := four B0
  obtain ⟨q0, q1, q2, q3⟩ := four B1
  generalize w.heap.size + 1 = b1 at *
  generalize w.heap.size = b0 at *
  go_region_held3 (fun w' => w'.cell? ⟨b0, 0, none⟩ = some (.int .i64 xs) ∧ w'.cell? ⟨b0, 1, none⟩ = some (.int .i64 xl) ∧ w'.cell? ⟨b0, 2, none⟩ = some (.int .i64 xc) ∧ w'.cell? ⟨b0, 3, none⟩ = some (.int .i64 xa) ∧
      w'.cell? ⟨b1, 0, none⟩ = some (.int .i64 ys) ∧ w'.cell? ⟨b1, 1, none⟩ = some (.int .i64 yl) ∧ w'.cell? ⟨b1, 2, none⟩ = some (.int .i64 yc) ∧ w'.cell? ⟨b1, 3, none⟩ = some (.int .i64 ya)) (go_keep)
    (first | (go_at_call 33; refine (cmp_any _ _ _).mono ?_; rintro e w' ⟨rfl, rfl⟩) | (go_at_call 32; refine (or3 _ _ _ _).mono ?_; rintro e w' ⟨rfl, rfl⟩))
  all_goals
    go_wp2_with fail
    go_ret
    exact ⟨rfl, oW.trans (((Only.refl _ _).alloc _).drew)⟩
end Go.Proofs.Ytojhleijpcghoaa
