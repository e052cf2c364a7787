/-
  What a usage table is in memory: two blocks, the table's three cells and the segments' cells; with the facts on its cells, its stores and its later worlds. No condition.
-/
import Derived.Test.YtfjkdkkljfgboaaRows
import Derived.WalkKit
import Derived.Below
import Derived.Deep.QuietTactic
import Derived.BigQuiet
import Derived.Outline
import Derived.Lib.Hide
import Derived.RegionTactic
import Derived.BigRegion
namespace Go.Proofs.Ytfjkdkkljfgboaa
open Go.RowKit

structure Inf where
  live : Int
  state : Int
  age : Int
  deriving DecidableEq

def Inf.zero : Inf := ⟨0, 0, 0⟩
/-- Segment i. -/
def seg (L : List Inf) (i : Nat) : Inf := L.getD i Inf.zero
def flat : List Inf → List Value
  | [] => []
  | s :: L => .int .i64 s.live :: .int .i64 s.state :: .int .i64 s.age :: flat L

theorem flat_length (L : List Inf) : (flat L).length = L.length * 3 := by
  induction L with
  | nil => rfl
  | cons s L ih => simp [flat, ih]; omega

theorem flat_live (L : List Inf) : ∀ i, i < L.length → (flat L)[i * 3]? = some (.int .i64 (seg L i).live) := by
  induction L with
  | nil => intro i h; simp at h
  | cons s L ih =>
    intro i h
    cases i with
    | zero => simp [flat, seg]
    | succ i =>
      have := ih i (by simpa using h)
      rw [show (i + 1) * 3 = i * 3 + 3 from by omega]
      simpa [flat, seg] using this
theorem flat_state (L : List Inf) : ∀ i, i < L.length → (flat L)[i * 3 + 1]? = some (.int .i64 (seg L i).state) := by
  induction L with
  | nil => intro i h; simp at h
  | cons s L ih =>
    intro i h
    cases i with
    | zero => simp [flat, seg]
    | succ i =>
      have := ih i (by simpa using h)
      rw [show (i + 1) * 3 + 1 = i * 3 + 1 + 3 from by omega]
      simpa [flat, seg] using this
theorem flat_age (L : List Inf) : ∀ i, i < L.length → (flat L)[i * 3 + 2]? = some (.int .i64 (seg L i).age) := by
  induction L with
  | nil => intro i h; simp at h
  | cons s L ih =>
    intro i h
    cases i with
    | zero => simp [flat, seg]
    | succ i =>
      have := ih i (by simpa using h)
      rw [show (i + 1) * 3 + 2 = i * 3 + 2 + 3 from by omega]
      simpa [flat, seg] using this

theorem flat_set_live (L : List Inf) (x : Int) : ∀ i, i < L.length → (flat L).set (i * 3) (.int .i64 x) = flat (L.set i { seg L i with live := x }) := by
  induction L with
  | nil => intro i h; simp at h
  | cons s L ih =>
    intro i h
    cases i with
    | zero => simp [flat, seg]
    | succ i =>
      have := ih i (by simpa using h)
      rw [show (i + 1) * 3 = i * 3 + 3 from by omega]
      simpa [flat, seg] using this
theorem flat_set_state (L : List Inf) (x : Int) : ∀ i, i < L.length → (flat L).set (i * 3 + 1) (.int .i64 x) = flat (L.set i { seg L i with state := x }) := by
  induction L with
  | nil => intro i h; simp at h
  | cons s L ih =>
    intro i h
    cases i with
    | zero => simp [flat, seg]
    | succ i =>
      have := ih i (by simpa using h)
      rw [show (i + 1) * 3 + 1 = i * 3 + 1 + 3 from by omega]
      simpa [flat, seg] using this
theorem flat_set_age (L : List Inf) (x : Int) : ∀ i, i < L.length → (flat L).set (i * 3 + 2) (.int .i64 x) = flat (L.set i { seg L i with age := x }) := by
  induction L with
  | nil => intro i h; simp at h
  | cons s L ih =>
    intro i h
    cases i with
    | zero => simp [flat, seg]
    | succ i =>
      have := ih i (by simpa using h)
      rw [show (i + 1) * 3 + 2 = i * 3 + 2 + 3 from by omega]
      simpa [flat, seg] using this

/-- A usage table in memory. -/
structure Tab (w : World) (p c : Nat) (L : List Inf) (size hand : Int) : Prop where
  hp : w.heap[p]? = some (.cells #[.slice (some ⟨c, 0, none⟩) L.length L.length, .int .i64 size, .int .i64 hand] 61)
  hc : w.heap[c]? = some (.cells (flat L).toArray 38)

section
variable {w : World} {p c : Nat} {L : List Inf} {size hand : Int}

theorem Tab.ne (h : Tab w p c L size hand) : p ≠ c := by
  intro e
  have h1 := h.hp
  have h2 := h.hc
  rw [e, h2] at h1
  simp at h1

theorem Tab.plt (h : Tab w p c L size hand) : p < w.heap.size := by
  rcases Nat.lt_or_ge p w.heap.size with h' | h'
  · exact h'
  · have h1 := h.hp; simp [Array.getElem?_eq_none h'] at h1
theorem Tab.clt (h : Tab w p c L size hand) : c < w.heap.size := by
  rcases Nat.lt_or_ge c w.heap.size with h' | h'
  · exact h'
  · have h1 := h.hc; simp [Array.getElem?_eq_none h'] at h1

theorem Tab.l (h : Tab w p c L size hand) : w.cell? ⟨p, 0, none⟩ = some (.slice (some ⟨c, 0, none⟩) L.length L.length) := by simp [World.cell?, h.hp]
theorem Tab.sz (h : Tab w p c L size hand) : w.cell? ⟨p, 1, none⟩ = some (.int .i64 size) := by simp [World.cell?, h.hp]
theorem Tab.hd (h : Tab w p c L size hand) : w.cell? ⟨p, 2, none⟩ = some (.int .i64 hand) := by simp [World.cell?, h.hp]
theorem Tab.fp (h : Tab w p c L size hand) (i : Nat) : w.frozen? ⟨p, i, none⟩ = false := by simp [World.frozen?, h.hp]
theorem Tab.fc (h : Tab w p c L size hand) (i : Nat) : w.frozen? ⟨c, i, none⟩ = false := by simp [World.frozen?, h.hc]
theorem Tab.live (h : Tab w p c L size hand) (i : Nat) (hi : i < L.length) : w.cell? ⟨c, i * 3, none⟩ = some (.int .i64 (seg L i).live) := by
  have := flat_live L i hi
  simp [World.cell?, h.hc, this]
theorem Tab.state (h : Tab w p c L size hand) (i : Nat) (hi : i < L.length) : w.cell? ⟨c, i * 3 + 1, none⟩ = some (.int .i64 (seg L i).state) := by
  have := flat_state L i hi
  simp [World.cell?, h.hc, this]
theorem Tab.age (h : Tab w p c L size hand) (i : Nat) (hi : i < L.length) : w.cell? ⟨c, i * 3 + 2, none⟩ = some (.int .i64 (seg L i).age) := by
  have := flat_age L i hi
  simp [World.cell?, h.hc, this]

/-- It stands in every world whose two blocks are the same. -/
theorem Tab.of (h : Tab w p c L size hand) {w' : World} (h1 : w'.heap[p]? = w.heap[p]?) (h2 : w'.heap[c]? = w.heap[c]?) : Tab w' p c L size hand :=
  ⟨h1.trans h.hp, h2.trans h.hc⟩

theorem heap_setCell_same (w : World) (b o : Nat) (v : Value) (cs : Array Value) (e : TypeId) (f : Nat × Nat) (h : w.heap[b]? = some (.cells cs e f)) :
    (w.setCell ⟨b, o, none⟩ v).heap[b]? = some (.cells (cs.setIfInBounds o v) e f) := by
  simp [World.setCell, Array.getElem?_modify, h]

theorem Tab.setHand (h : Tab w p c L size hand) (x : Int) : Tab (w.setCell ⟨p, 2, none⟩ (.int .i64 x)) p c L size x :=
  ⟨by rw [heap_setCell_same _ _ _ _ _ _ _ h.hp]; rfl, by rw [Below.heap_setCell _ _ _ _ (fun e => h.ne e.symm)]; exact h.hc⟩
theorem Tab.setCells (h : Tab w p c L size hand) (o : Nat) (v : Value) (L' : List Inf) (hL : (flat L).set o v = flat L') (hl : L'.length = L.length) :
    Tab (w.setCell ⟨c, o, none⟩ v) p c L' size hand :=
  ⟨by rw [Below.heap_setCell _ _ _ _ h.ne, hl]; exact h.hp, by rw [heap_setCell_same _ _ _ _ _ _ _ h.hc]; simp [hL]⟩
theorem Tab.setLive (h : Tab w p c L size hand) (i : Nat) (hi : i < L.length) (x : Int) :
    Tab (w.setCell ⟨c, i * 3, none⟩ (.int .i64 x)) p c (L.set i { seg L i with live := x }) size hand :=
  h.setCells _ _ _ (flat_set_live L x i hi) (by simp)
theorem Tab.setState (h : Tab w p c L size hand) (i : Nat) (hi : i < L.length) (x : Int) :
    Tab (w.setCell ⟨c, i * 3 + 1, none⟩ (.int .i64 x)) p c (L.set i { seg L i with state := x }) size hand :=
  h.setCells _ _ _ (flat_set_state L x i hi) (by simp)
theorem Tab.setAge (h : Tab w p c L size hand) (i : Nat) (hi : i < L.length) (x : Int) :
    Tab (w.setCell ⟨c, i * 3 + 2, none⟩ (.int .i64 x)) p c (L.set i { seg L i with age := x }) size hand :=
  h.setCells _ _ _ (flat_set_age L x i hi) (by simp)
theorem Tab.drew (h : Tab w p c L size hand) : Tab w.drew p c L size hand := ⟨h.hp, h.hc⟩
theorem Tab.drewN (h : Tab w p c L size hand) (n : Nat) : Tab (w.drewN n) p c L size hand := ⟨h.hp, h.hc⟩
theorem Tab.alloc (h : Tab w p c L size hand) (o : Obj) : Tab (w.alloc o) p c L size hand :=
  h.of (Below.heap_alloc _ _ _ h.plt) (Below.heap_alloc _ _ _ h.clt)
end

/-- What lies in no block of S is as it was. -/
structure Only (S : Nat → Prop) (w w' : World) : Prop where
  os : w'.os = w.os
  tape : w'.tape = w.tape
  output : w'.output = w.output
  size : w.heap.size ≤ w'.heap.size
  block : ∀ k, k < w.heap.size → ¬ S k → w'.heap[k]? = w.heap[k]?

theorem Only.refl (S : Nat → Prop) (w : World) : Only S w w := ⟨rfl, rfl, rfl, Nat.le_refl _, fun _ _ _ => rfl⟩
theorem Only.trans {S : Nat → Prop} {a b d : World} (h : Only S a b) (k : Only S b d) : Only S a d :=
  ⟨k.os.trans h.os, k.tape.trans h.tape, k.output.trans h.output, Nat.le_trans h.size k.size,
    fun i hi hs => (k.block i (Nat.lt_of_lt_of_le hi h.size) hs).trans (h.block i hi hs)⟩
theorem Only.mono {S T : Nat → Prop} {w w' : World} (h : Only S w w') (hST : ∀ k, k < w.heap.size → S k → T k) : Only T w w' :=
  ⟨h.os, h.tape, h.output, h.size, fun k hk hT => h.block k hk (fun hS => hT (hST k hk hS))⟩
theorem Only.drew {S : Nat → Prop} {a w : World} (h : Only S a w) : Only S a w.drew := ⟨h.os, h.tape, h.output, h.size, h.block⟩
theorem Only.drewN {S : Nat → Prop} {a w : World} (h : Only S a w) (n : Nat) : Only S a (w.drewN n) := ⟨h.os, h.tape, h.output, h.size, h.block⟩
theorem Only.alloc {S : Nat → Prop} {a w : World} (h : Only S a w) (o : Obj) : Only S a (w.alloc o) :=
  h.trans ⟨rfl, rfl, rfl, by simp, fun k hk _ => Below.heap_alloc _ _ _ hk⟩
theorem Only.setCell {S : Nat → Prop} {a w : World} (h : Only S a w) {q : Addr} (hq : S q.block ∨ a.heap.size ≤ q.block) (u : Value) : Only S a (w.setCell q u) := by
  refine ⟨h.os, h.tape, h.output, by simpa using h.size, fun k hk hS => ?_⟩
  rw [Below.heap_setCell _ _ _ _ ?_]
  · exact h.block k hk hS
  · intro e
    subst e
    rcases hq with hq | hq
    · exact hS hq
    · omega
theorem Only.below {S : Nat → Prop} {w w' : World} {B : Nat} (h : Only S w w') (hB : B ≤ w.heap.size) (hS : ∀ k, S k → B ≤ k) : Below B w w' :=
  ⟨h.os, h.tape, h.output, h.size, fun k hk => h.block k (by omega) (fun s => by have := hS k s; omega)⟩
theorem Tab.only {w w' : World} {p c : Nat} {L : List Inf} {size hand : Int} {S : Nat → Prop} (h : Tab w p c L size hand) (o : Only S w w') (h1 : ¬ S p) (h2 : ¬ S c) : Tab w' p c L size hand :=
  h.of (o.block p h.plt h1) (o.block c h.clt h2)

/-- The two blocks of a table. -/
def Two (p c : Nat) : Nat → Prop := fun k => k = p ∨ k = c
end Go.Proofs.Ytfjkdkkljfgboaa
