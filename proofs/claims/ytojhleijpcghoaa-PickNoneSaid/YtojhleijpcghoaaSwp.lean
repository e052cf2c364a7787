/-
  The walk of the queue's Swap at one place: it leaves the queue as it is. Conditions: the queue's facts.
-/
import Derived.Test.YtojhleijpcghoaaQue
namespace Go.Proofs.Ytojhleijpcghoaa
open Go.RowKit
set_option linter.unusedVariables false

set_option maxRecDepth 100000 in
set_option maxHeartbeats 4000000 in
theorem swap_eq {w : World} {g : Nat} {Q : List Pl} (cap i : Nat) (h : PlAt w g Q) (hi : i < Q.length) (hL : Q.length ≤ 512) :
    Calls Try.prog 53 #[.slice (some ⟨g, 0, none⟩) Q.length cap, .int .i64 i, .int .i64 i] w fun e w' =>
      e = .returned (.tuple #[]) ∧ PlAt w' g Q ∧ Only (fun k => k = g) w w' := by
  obtain ⟨x0, x1, x2, x3, x4⟩ := h.five i hi
  have f0 := h.free
  go_enter Try.func53, Try.ntmps53
  go_wp2_with fail
  go_region
  go_wp2_with fail
  go_end0
  have h2 := ((h.put i hi (elt Q i)).put i (by simpa using hi) (elt Q i)).drew
  have o2 := (put5_only (S := fun k => k = g) i (elt Q i) (put5_only i (elt Q i) (Only.refl _ w) (.inl rfl)) (.inl rfl)).drew
  rw [set_elt, set_elt] at h2
  unfold put5 at h2 o2
  exact ⟨rfl, h2, o2⟩

theorem swap_any {w : World} {g : Nat} {Q : List Pl} (cap i j : Nat) (h : PlAt w g Q) (hi : i < Q.length) (hj : j < Q.length) (hL : Q.length ≤ 512) :
    Calls Try.prog 53 #[.slice (some ⟨g, 0, none⟩) Q.length cap, .int .i64 i, .int .i64 j] w fun e w' =>
      e = .returned (.tuple #[]) ∧ PlAt w' g (swapQ Q i j) ∧ Only (fun k => k = g) w w' := by
  by_cases e : i = j
  · subst e
    unfold swapQ
    rw [set_elt, set_elt]
    exact swap_eq cap i h hi hL
  · exact swap_ne cap i j h hi hj hL e
end Go.Proofs.Ytojhleijpcghoaa
