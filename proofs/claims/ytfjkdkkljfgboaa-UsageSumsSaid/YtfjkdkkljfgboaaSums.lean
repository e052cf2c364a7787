/-
  UsageSums returns true for every input, and each argument reads behind the call as it read before it: the statement Rows.UsageSumsSaid. No condition.
-/
import Derived.Test.YtfjkdkkljfgboaaSumsW
import Derived.ProofKit
import Derived.OpenShut
import Derived.ChangeOld
import Derived.Deep.Slices
namespace Go.Proofs.Ytfjkdkkljfgboaa.usageSums
open Go.ChangeShapes Go.WideShapes Go.ChangeAt Go.RowKit
set_option linter.unusedVariables false

theorem own : ownKnob Try.prog.godebug = none := by kernel_rfl
theorem laidOut : laidOutB Try.prog = true := by kernel_rfl
theorem cells35 : Try.prog.cellsOf 35 = 2 := by kernel_rfl
theorem cells3 : Try.prog.cellsOf 3 = 1 := by kernel_rfl

theorem rows_of {H : Type} {enc : TypeId × Value → H} {w : World} {spare : Nat → Bool} {held : Bool} {fuel : Nat} {a : Option Addr} {len cap : Nat} {x : DataW H × List MemPlace}
    (h : DataW.trod enc Try.prog w 0 spare held fuel 33 [.slice a len cap] = some x) : len ≤ maxLen ∧ IntRows w a len 2 := by
  rcases Go.Deep.open_slice Try.underlying33 h with ⟨hcs, _⟩ | ⟨b, l, c, m, n, D, Pl, hcs, _, hl, hm, hmm, _, hx⟩
  · simp at hcs
    obtain ⟨rfl, rfl, rfl⟩ := hcs
    exact ⟨Nat.zero_le _, fun k hk => absurd hk (Nat.not_lt_zero _)⟩
  · simp at hcs
    obtain ⟨rfl, rfl, rfl⟩ := hcs
    refine ⟨by omega, fun k hk => ?_⟩
    have hkm : k < m := by rw [hmm]; split <;> omega
    obtain ⟨cs', h1, h2⟩ := hx k hkm
    rw [cells35] at h1
    obtain ⟨_, hlen, hcell⟩ := World.cells?_some h1
    obtain ⟨xs, f, _, _, _, hxl, hf⟩ := DataW.trod_array Try.underlying35 h2
    have each : ∀ j, j < 2 → ∃ y, cs'[j]? = some (.int .i64 y) := by
      intro j hj
      have hj' := hf j hj
      rw [cells3, List.getElem?_eq_getElem (by omega)] at hj'
      obtain ⟨y, hy, _, _⟩ := DataW.trod_int Try.underlying3 hj'
      refine ⟨y, ?_⟩
      have : (List.take 1 (List.drop (j * 1) cs'))[0]? = some (.int .i64 y) := by rw [hy]; rfl
      simpa using this
    obtain ⟨f, hf⟩ := Go.Deep.choose_lt (α := Int) each
    have hspot : b.spot = none := by
      obtain ⟨c0, g1, g2⟩ := hx 0 (by omega)
      rw [cells35] at g1
      obtain ⟨_, glen, gcell⟩ := World.cells?_some g1
      have g3 := gcell 0 (by omega)
      rw [List.getElem?_eq_getElem (by omega)] at g3
      have g4 := World.cell?_spot g3
      simpa [Addr.add] using g4
    obtain ⟨bb, off, spot⟩ := b
    simp at hspot
    subst hspot
    refine ⟨bb, off, rfl, f, fun j hj => ?_⟩
    rw [← hf j hj, ← hcell j hj, Go.Deep.add_add]
    unfold Addr.add
    by_cases h0 : k * 2 + j = 0
    · rw [if_pos h0, h0, Nat.add_zero]
    · rw [if_neg h0]

set_option maxRecDepth 100000 in
theorem lifted (os : Os) (started : os.Started) (H : Type) (enc : TypeId × Value → H) :
    ReturnsInHanded {} Try.checked os 4 .any (Rows.usageSumsSpec.pre6 enc Try.prog Try.f4 Rows.usageSumsRow.domain false) (Rows.usageSumsSpec.post enc Try.prog Try.f4 false true false false) := by
  refine returnsInHanded_of_change (C := Try.checked) own started (by kernel_rfl) Try.func4
    (ChangeSpec.witness6 (enc := enc) (C := Try.checked) false ⟨#[], #[.int .i64 0, .slice none 0 0], []⟩ 8 (by kernel_rfl) (by kernel_rfl) (by kernel_rfl) (by kernel_rfl)) ?_
  intro W base args ds gs before hval0 hW hcnd _
  have hval : ∀ (j : Nat) t v, Try.f4.params[j]? = some t → args[j]? = some v → Value.okWide Try.prog W .any base t v := hval0
  have hW' := hW
  obtain ⟨p, q, hA0, hV, rfl, hfz, hnd⟩ := hW
  have hA : DataW.TrodAll enc Try.prog W 0 (fun _ => true) true Try.f4.params.toList args.toList ds p := hA0
  rw [Try.params4] at hA hval
  obtain ⟨v0, vs0, d0, ds0, p0, q0, hargs, rfl, rfl, h0, r0⟩ := trodAll_cons hA
  obtain ⟨v1, vs1, d1, ds1, p1, q1, rfl, rfl, rfl, h1, r1⟩ := trodAll_cons r0
  obtain ⟨rfl, rfl, rfl⟩ := trodAll_nil r1
  obtain rfl : args = #[v0, v1] := by cases args; simp_all
  obtain ⟨rfl, rfl⟩ := trodVars_none hV
  obtain ⟨a0, rfl, rfl, rfl, w0⟩ := open_int Try.underlying3 (hval 0 3 v0 rfl rfl) h0
  obtain ⟨a, len, cap, rfl⟩ := okWide_slice Try.underlying33 (hval 1 33 v1 rfl rfl)
  have k1 := h1
  have lt1 : ∀ x ∈ p1, x.block < W.heap.size := by obtain ⟨m, hm⟩ := k1; exact DataW.trod_lt m _ _ _ hm
  obtain ⟨fuel, hf⟩ := h1
  obtain ⟨hl, hrows⟩ := rows_of hf
  clear hA0 hval0
  refine (sums_walk a0 a len cap W hl hrows).mono fun e W' ⟨he, ho⟩ => ?_
  have bel : Below W.heap.size W W' := ho.below (Nat.le_refl _) (fun _ h => h.elim)
  subst he
  exact ⟨_, rfl, _, _, _, [], _, [], hW', trodAll_mk1 (shut_bool Try.underlying4 _), (trodAll_cons_mk (shut_int Try.underlying3 w0) (trodAll_cons_mk (Below.trod laidOut (by kernel_rfl) (of_decide_eq_true (by kernel_rfl)) k1 bel lt1) trodAll_mk0)), rfl, bel.frame _, fun h => by cases h⟩

theorem over : Rows.usageSumsRow.holds Try.pinned (OpenSpec.ofChange Rows.usageSumsSpec) :=
  OpenClaim.holds_of_wide 4 Try.f4 rfl rfl rfl rfl rfl rfl rfl ⟨rfl, rfl, rfl, rfl, rfl⟩ rfl rfl rfl rfl rfl (by kernel_rfl) Try.func4 (by kernel_rfl)
    (of_decide_eq_true (by kernel_rfl)) (by unfold Func.isWrapper; first | (rw [if_pos (by decide +kernel)]; kernel_rfl) | (rw [if_neg (by decide +kernel)]; exact ⟨rfl, rfl⟩))
    (fun os started H enc _ => lifted os started H enc)

theorem proved : Rows.UsageSumsSaid := over
#print axioms proved
end Go.Proofs.Ytfjkdkkljfgboaa.usageSums
