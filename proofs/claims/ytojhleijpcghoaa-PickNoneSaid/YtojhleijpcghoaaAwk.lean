/-
  The walk of the statements' awake: it answers true. No condition.
-/
import Derived.Test.YtojhleijpcghoaaHs
namespace Go.Proofs.Ytojhleijpcghoaa
open Go.RowKit
set_option linter.unusedVariables false

def exA : Cd := ⟨1, 2, 8, 10⟩
def exB : Cd := ⟨2, 0, 8, 5⟩
theorem exA_gd : Gd exA := ⟨by decide, by decide, by decide, by decide, by decide, by decide⟩
theorem exB_gd : Gd exB := ⟨by decide, by decide, by decide, by decide, by decide, by decide⟩
theorem ex_best : bestC [exB, exA] 1 = ([exA], 0) := by rw [bestC_eq]; decide
theorem ex1 (w : World) : Calls Try.prog 16 #[.agg #[.int .i64 1, .int .i64 2, .int .i64 8, .int .i64 10], .agg #[.int .i64 2, .int .i64 0, .int .i64 8, .int .i64 5]] w fun e w' => e = .returned (.bool true) ∧ Only (fun _ => False) w w' := by
  have h := better_any exA exB w exA_gd exB_gd
  rw [show betC exA exB = true by decide] at h
  exact h
theorem ex2 (w : World) : Calls Try.prog 16 #[.agg #[.int .i64 2, .int .i64 0, .int .i64 8, .int .i64 5], .agg #[.int .i64 1, .int .i64 2, .int .i64 8, .int .i64 10]] w fun e w' => e = .returned (.bool false) ∧ Only (fun _ => False) w w' := by
  have h := better_any exB exA w exB_gd exA_gd
  rw [show betC exB exA = false by decide] at h
  exact h

theorem three_new (w : World) (A B C : Obj) : (((w.alloc A).alloc B).alloc C).heap[w.heap.size]? = some A ∧ (((w.alloc A).alloc B).alloc C).heap[w.heap.size + 1]? = some B ∧ (((w.alloc A).alloc B).alloc C).heap[w.heap.size + 1 + 1]? = some C := by
  have h0 := heap_alloc_new w A
  have h1 := heap_alloc_new (w.alloc A) B
  have h2 := heap_alloc_new ((w.alloc A).alloc B) C
  rw [World.size_alloc] at h1
  rw [World.size_alloc, World.size_alloc] at h2
  refine ⟨?_, ?_, h2⟩
  · rw [Below.heap_alloc _ _ _ (by simp only [World.size_alloc]; omega), Below.heap_alloc _ _ _ (by simp only [World.size_alloc]; omega)]; exact h0
  · rw [Below.heap_alloc _ _ _ (by simp only [World.size_alloc]; omega)]; exact h1
theorem cds_block {w : World} {g : Nat} {cur : Array Value} {t : TypeId} {l : List Cd} (hh : w.heap[g]? = some (.cells cur t (0, 0))) (hx : cur.toList.take (l.length * 4) = flatC l) : CdsAt w (some ⟨g, 0, none⟩) l := by
  intro k hk
  refine ⟨g, 0, rfl, ?_⟩
  have hc : ∀ j u, j < l.length * 4 → (flatC l)[j]? = some u → w.cell? ⟨g, j, none⟩ = some u := by
    intro j u hj hu
    have h2 : (cur.toList.take (l.length * 4))[j]? = (flatC l)[j]? := by rw [hx]
    rw [List.getElem?_take_of_lt hj, hu] at h2
    have h3 : cur[j]? = some u := by rw [← h2]; simp
    simp [World.cell?, hh, h3]
  obtain ⟨h0, h1, h2, h3⟩ := flatC_at l k hk
  rw [Nat.zero_add]
  exact ⟨hc _ _ (by omega) h0, hc _ _ (by omega) h1, hc _ _ (by omega) h2, hc _ _ (by omega) h3⟩
/-- The cells that awake's last line reads. -/
def AwkAt (w : World) (a b g : Nat) : Prop :=
  w.cell? ⟨a, 0, none⟩ = some (.int .i64 1) ∧ w.cell? ⟨a, 1, none⟩ = some (.int .i64 2) ∧ w.cell? ⟨a, 2, none⟩ = some (.int .i64 8) ∧ w.cell? ⟨a, 3, none⟩ = some (.int .i64 10) ∧
  w.cell? ⟨b, 0, none⟩ = some (.int .i64 2) ∧ w.cell? ⟨b, 1, none⟩ = some (.int .i64 0) ∧ w.cell? ⟨b, 2, none⟩ = some (.int .i64 8) ∧ w.cell? ⟨b, 3, none⟩ = some (.int .i64 5) ∧
  w.cell? ⟨g, 0, none⟩ = some (.int .i64 1) ∧ w.cell? ⟨g, 1, none⟩ = some (.int .i64 2) ∧ w.cell? ⟨g, 2, none⟩ = some (.int .i64 8) ∧ w.cell? ⟨g, 3, none⟩ = some (.int .i64 10)
theorem AwkAt.only {w w' : World} {a b g : Nat} (h : AwkAt w a b g) (o : Only (fun _ => False) w w') : AwkAt w' a b g := by
  have key : ∀ {x j : Nat} {v : Value}, w.cell? ⟨x, j, none⟩ = some v → w'.cell? ⟨x, j, none⟩ = some v := fun h =>
    (World.cell?_of_block (o.block _ (World.block_lt_of_cell? _ _ h) (fun z => z))).trans h
  obtain ⟨a0, a1, a2, a3, b0, b1, b2, b3, g0, g1, g2, g3⟩ := h
  exact ⟨key a0, key a1, key a2, key a3, key b0, key b1, key b2, key b3, key g0, key g1, key g2, key g3⟩

set_option maxRecDepth 100000 in
set_option maxHeartbeats 4000000 in
theorem awake_any (w : World) : Calls Try.prog 9 #[] w fun e w' => e = .returned (.bool true) ∧ Only (fun _ => False) w w' := by
  go_enter Try.func9, Try.ntmps9
  go_wp2_with fail
  have oW : Only (fun _ => False) w (((w.alloc (.cells #[.int .i64 1, .int .i64 2, .int .i64 8, .int .i64 10] 35)).alloc (.cells #[.int .i64 2, .int .i64 0, .int .i64 8, .int .i64 5] 35)).alloc (.cells #[.int .i64 2, .int .i64 0, .int .i64 8, .int .i64 5, .int .i64 1, .int .i64 2, .int .i64 8, .int .i64 10] 35)) := (((Only.refl _ _).alloc _).alloc _).alloc _
  obtain ⟨B0, B1, B2⟩ := three_new w (.cells #[.int .i64 1, .int .i64 2, .int .i64 8, .int .i64 10] 35) (.cells #[.int .i64 2, .int .i64 0, .int .i64 8, .int .i64 5] 35) (.cells #[.int .i64 2, .int .i64 0, .int .i64 8, .int .i64 5, .int .i64 1, .int .i64 2, .int .i64 8, .int .i64 10] 35)
  generalize (((w.alloc (.cells #[.int .i64 1, .int .i64 2, .int .i64 8, .int .i64 10] 35)).alloc (.cells #[.int .i64 2, .int .i64 0, .int .i64 8, .int .i64 5] 35)).alloc (.cells #[.int .i64 2, .int .i64 0, .int .i64 8, .int .i64 5, .int .i64 1, .int .i64 2, .int .i64 8, .int .i64 10] 35)) = W at *
  generalize w.heap.size + 1 + 1 = b2 at *
  generalize w.heap.size + 1 = b1 at *
  generalize w.heap.size = b0 at *
  have hB : Calls Try.prog 10 #[.slice (some ⟨b2, 0, none⟩) 2 2, .int .i64 1] W (PickRes W ([exA], 0)) := by
    have h := best_any (some ⟨b2, 0, none⟩) 2 [exB, exA] 1 W (by decide) (cds_block B2 rfl)
    rw [ex_best] at h
    exact h
  clear B2
  refine hB.mono ?_
  rintro e w2 ⟨v, rfl, hv, o2⟩
  rcases hv with ⟨-, hv⟩ | ⟨g, cur, rfl, -, hg, -, hx⟩
  · simp at hv
  have K : AwkAt w2 b0 b1 g := by
    obtain ⟨a0, a1, a2, a3⟩ := four (o2.keep B0 (fun z => z))
    obtain ⟨c0, c1, c2, c3⟩ := four (o2.keep B1 (fun z => z))
    obtain ⟨d0, d1, d2, d3⟩ := cds_at (k := 0) (cds_block (l := [exA]) hg hx) (by decide) rfl
    exact ⟨a0, a1, a2, a3, c0, c1, c2, c3, d0, d1, d2, d3⟩
  have HK := Lib.hid K
  obtain ⟨a0, a1, a2, a3, c0, c1, c2, c3, d0, d1, d2, d3⟩ := K
  clear hB B0 B1 hg hx
  go_wp2_with fail
  have O := oW.trans o2
  clear oW o2
  go_region_held3 (fun w' => w'.cell? ⟨b0, 0, none⟩ = some (.int .i64 1) ∧ w'.cell? ⟨b0, 1, none⟩ = some (.int .i64 2) ∧ w'.cell? ⟨b0, 2, none⟩ = some (.int .i64 8) ∧ w'.cell? ⟨b0, 3, none⟩ = some (.int .i64 10) ∧ w'.cell? ⟨b1, 0, none⟩ = some (.int .i64 2) ∧ w'.cell? ⟨b1, 1, none⟩ = some (.int .i64 0) ∧ w'.cell? ⟨b1, 2, none⟩ = some (.int .i64 8) ∧ w'.cell? ⟨b1, 3, none⟩ = some (.int .i64 5) ∧ w'.cell? ⟨g, 0, none⟩ = some (.int .i64 1) ∧ w'.cell? ⟨g, 1, none⟩ = some (.int .i64 2) ∧ w'.cell? ⟨g, 2, none⟩ = some (.int .i64 8) ∧ w'.cell? ⟨g, 3, none⟩ = some (.int .i64 10)) (go_keep)
    (first | ((go_at_call 16; refine (ex1 _).mono ?_; rintro e wA ⟨rfl, oA⟩; obtain ⟨a0, a1, a2, a3, c0, c1, c2, c3, d0, d1, d2, d3⟩ := HK.out.only (w := w2.drew) oA)) | ((go_at_call 16; refine (ex2 _).mono ?_; rintro e wB ⟨rfl, oB⟩; obtain ⟨a0, a1, a2, a3, c0, c1, c2, c3, d0, d1, d2, d3⟩ := (HK.out.only (w := w2.drew) oA).only oB)))
  all_goals
    go_wp2_with fail
    go_ret
    exact ⟨rfl, O.drew.trans (Only.trans oA oB)⟩
end Go.Proofs.Ytojhleijpcghoaa
