/-
  A candidate that came in by value: four numbers. Condition: it reads as data.
-/
import Derived.Test.YtojhleijpcghoaaOdw
import Derived.Lib.SmallJoins
namespace Go.Proofs.Ytojhleijpcghoaa
open Go.ChangeShapes Go.WideShapes Go.ChangeAt Go.RowKit
set_option linter.unusedVariables false

theorem cand_of {H : Type} {enc : TypeId × Value → H} {w : World} {base b0 : Nat} {r : Reach} {spare : Nat → Bool} {held : Bool} {v : Value} {d : DataW H} {p : List MemPlace}
    (hv : Value.okWide Try.prog w r b0 35 v) (h : DataW.Trod enc Try.prog w base spare held 35 v d p) : ∃ c : Cd, v = .agg #[.int .i64 c.seg, .int .i64 c.live, .int .i64 c.cap, .int .i64 c.age] := by
  obtain ⟨v0, v1, v2, v3, y0, y1, y2, y3, n, rfl, -, -, h0, h1, h2, h3⟩ := Go.Joins.open_agg4 Try.underlying35 (by kernel_rfl) arg_cells35 hv h
  obtain ⟨z0, e0, _, _⟩ := DataW.trod_int Try.underlying3 h0
  obtain ⟨z1, e1, _, _⟩ := DataW.trod_int Try.underlying3 h1
  obtain ⟨z2, e2, _, _⟩ := DataW.trod_int Try.underlying3 h2
  obtain ⟨z3, e3, _, _⟩ := DataW.trod_int Try.underlying3 h3
  simp only [List.cons.injEq, and_true] at e0 e1 e2 e3
  subst e0 e1 e2 e3
  exact ⟨⟨z0, z1, z2, z3⟩, rfl⟩
end Go.Proofs.Ytojhleijpcghoaa
