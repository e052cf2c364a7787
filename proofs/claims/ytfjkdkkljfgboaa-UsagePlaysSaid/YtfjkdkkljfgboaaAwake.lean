/-
  The walk of the fixed fact 'awake': it answers true and writes nothing that was there. No condition.
-/
import Derived.Test.YtfjkdkkljfgboaaTake
import Derived.Test.YtfjkdkkljfgboaaRel
namespace Go.Proofs.Ytfjkdkkljfgboaa
open Go.RowKit

theorem heap_alloc_new (w : World) (o : Obj) : (w.alloc o).heap[w.heap.size]? = some o := by
  show (w.heap.push o)[w.heap.size]? = some o
  simp

/-- What New lays: a table. -/
theorem tab_new (w : World) (n size : Nat) :
    Tab ((w.alloc (.cells (flat (List.replicate n Inf.zero)).toArray 38)).alloc (.cells #[.slice (some ⟨w.heap.size, 0, none⟩) n n, .int .i64 size, .int .i64 (-1)] 61))
      (w.heap.size + 1) w.heap.size (List.replicate n Inf.zero) size (-1) := by
  refine ⟨?_, ?_⟩
  · have h := heap_alloc_new (w.alloc (.cells (flat (List.replicate n Inf.zero)).toArray 38)) (.cells #[.slice (some ⟨w.heap.size, 0, none⟩) n n, .int .i64 size, .int .i64 (-1)] 61)
    rw [World.size_alloc] at h
    rw [h, List.length_replicate]
  · rw [Below.heap_alloc _ _ _ (by simp)]
    exact heap_alloc_new _ _

theorem new_tab (n size : Nat) (w : World) (h1 : 1 ≤ n) (h2 : n ≤ 512) (h3 : 1 ≤ size) (h4 : size ≤ 64) :
    Calls Try.prog 9 #[.int .i64 n, .int .i64 size] w fun e w' =>
      e = .returned (.tuple #[.pointer (some ⟨w.heap.size + 1, 0, none⟩), .int .i64 0]) ∧
      Tab w' (w.heap.size + 1) w.heap.size (List.replicate n Inf.zero) size (-1) ∧ Only (fun _ => False) w w' :=
  (new_ok n size w h1 h2 h3 h4).mono fun _ _ ⟨he, hw⟩ => ⟨he, hw ▸ tab_new w n size, hw ▸ ((Only.refl _ w).alloc _).alloc _⟩

/-- Take at a table of which the first clean place is at round m, the table behind it spelled out. -/
theorem take_at {w : World} {p c : Nat} {L : List Inf} {size hand : Int} (m at_ : Nat) (L' : List Inf) (ht : Tab w p c L size hand) (hL : L.length ≤ 512) (h0 : -1 ≤ hand) (h1 : hand < L.length) (hm : m < L.length)
    (hbusy : ∀ k, k < m → (seg L (spotOf L.length hand k)).state ≠ 0) (hclean : (seg L (spotOf L.length hand m)).state = 0)
    (hat : spotOf L.length hand m = at_) (hL' : seizeL L hand at_ = L') :
    Calls Try.prog 10 #[.pointer (some ⟨p, 0, none⟩)] w fun e w' => e = .returned (.tuple #[.int .i64 at_, .int .i64 0]) ∧
      Tab w' p c L' size at_ ∧ Only (Two p c) w w' := by
  have h := take_ok m ht hL h0 h1 hm hbusy hclean
  rw [hat, hL'] at h
  exact h

def fresh (B : Nat) : Nat → Prop := fun k => B ≤ k
theorem Only.fresh {w w1 w2 : World} {p c : Nat} (h : Only (fresh w.heap.size) w w1) (k : Only (Two p c) w1 w2) (hp : w.heap.size ≤ p) (hc : w.heap.size ≤ c) : Only (Go.Proofs.Ytfjkdkkljfgboaa.fresh w.heap.size) w w2 :=
  h.trans (k.mono fun x _ hx => by rcases hx with rfl | rfl <;> assumption)

set_option maxHeartbeats 1000000 in
theorem awake_any (w : World) : Calls Try.prog 8 #[] w fun e w' => e = .returned (.bool true) ∧ Only (fun _ => False) w w' := by
  go_enter Try.func8, Try.ntmps8
  go_wp2_with fail
  refine (new_tab 3 8 w (by decide) (by decide) (by decide) (by decide)).mono ?_
  rintro e w1 ⟨rfl, t1, o1⟩
  replace o1 : Only (fresh w.heap.size) w w1 := o1.mono fun _ _ h => h.elim
  go_wp2_with fail
  refine (take_at 0 0 [⟨0, 2, 0⟩, Inf.zero, Inf.zero] t1 (by decide) (by decide) (by decide) (by decide) (by decide) (by decide) (by decide) (by decide)).mono ?_
  rintro e w2 ⟨rfl, t2, o2⟩
  replace o2 := o1.fresh o2 (by omega) (by omega)
  go_wp2_with fail
  refine (take_at 0 1 [⟨0, 1, 0⟩, ⟨0, 2, 0⟩, Inf.zero] t2 (by decide) (by decide) (by decide) (by decide) (by decide) (by decide) (by decide) (by decide)).mono ?_
  rintro e w3 ⟨rfl, t3, o3⟩
  replace o3 := o2.fresh o3 (by omega) (by omega)
  go_wp2_with fail
  refine (release_ok 0 t3 (by decide) (by decide) (by decide) (by decide)).mono ?_
  rintro e w4 ⟨rfl, t4, o4⟩
  replace o4 := o3.fresh o4 (by omega) (by omega)
  go_wp2_with fail
  refine (take_at 0 2 [⟨0, 0, 0⟩, ⟨0, 1, 0⟩, ⟨0, 2, 0⟩] t4 (by decide) (by decide) (by decide) (by decide) (by decide) (by decide) (by decide) (by decide)).mono ?_
  rintro e w5 ⟨rfl, t5, o5⟩
  replace o5 := o4.fresh o5 (by omega) (by omega)
  go_wp2_with fail
  refine (take_at 0 0 [⟨0, 2, 0⟩, ⟨0, 1, 0⟩, ⟨0, 1, 0⟩] t5 (by decide) (by decide) (by decide) (by decide) (by decide) (by decide) (by decide) (by decide)).mono ?_
  rintro e w6 ⟨rfl, t6, o6⟩
  replace o6 := o5.fresh o6 (by omega) (by omega)
  go_wp2_with fail
  refine (take_full t6 (by decide) (by decide) (by decide) (by decide)).mono ?_
  rintro e w7 ⟨rfl, o7⟩
  go_wp2_with fail
  go_ret
  exact ⟨rfl, (o6.trans (o7.mono fun _ _ h => h.elim)).mono fun k hk h => absurd hk (Nat.not_lt.2 h)⟩
end Go.Proofs.Ytfjkdkkljfgboaa
