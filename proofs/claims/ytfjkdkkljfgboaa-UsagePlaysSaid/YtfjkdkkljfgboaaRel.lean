/-
  The walks of usage's Release: what it answers on a table in memory. Conditions: the table's facts.
-/
import Derived.Test.YtfjkdkkljfgboaaTab
namespace Go.Proofs.Ytfjkdkkljfgboaa
open Go.RowKit
section
variable {w : World} {p c : Nat} {L : List Inf} {size hand : Int}

/-! ### Release -/
theorem release_out (i : Int) (ht : Tab w p c L size hand) (h : i < 0 ∨ L.length ≤ i) :
    Calls Try.prog 11 #[.pointer (some ⟨p, 0, none⟩), .int .i64 i] w fun e w' => e = .returned (.int .i64 22) ∧ w' = w := by
  have hl := ht.l
  by_cases h1 : i < 0
  · go_enter Try.func11, Try.ntmps11
    go_wp2
    go_ret
    exact ⟨rfl, rfl⟩
  · have h2 : (L.length : Int) ≤ i := by omega
    go_enter Try.func11, Try.ntmps11
    go_wp2
    go_ret
    exact ⟨rfl, rfl⟩

theorem release_clean (i : Nat) (ht : Tab w p c L size hand) (h : i < L.length) (hst : (seg L i).state = 0) :
    Calls Try.prog 11 #[.pointer (some ⟨p, 0, none⟩), .int .i64 i] w fun e w' => e = .returned (.int .i64 103) ∧ w' = w := by
  have hl := ht.l
  have hs := ht.state i h
  have hss : ((seg L i).state == 0) = true := by simpa using hst
  clear hst
  go_enter Try.func11, Try.ntmps11
  go_wp2
  go_ret
  exact ⟨rfl, rfl⟩

theorem release_active (i : Nat) (ht : Tab w p c L size hand) (h : i < L.length) (hst : (seg L i).state = 2) :
    Calls Try.prog 11 #[.pointer (some ⟨p, 0, none⟩), .int .i64 i] w fun e w' => e = .returned (.int .i64 16) ∧ w' = w := by
  have hl := ht.l
  have hs := ht.state i h
  have hss : ((seg L i).state == 0) = false := by simp; omega
  have hs2 : ((seg L i).state == 2) = true := by simp; omega
  clear hst
  go_enter Try.func11, Try.ntmps11
  go_wp2
  go_ret
  exact ⟨rfl, rfl⟩

theorem release_live (i : Nat) (ht : Tab w p c L size hand) (h : i < L.length) (hst : (seg L i).state ≠ 0) (hst2 : (seg L i).state ≠ 2) (hlv : 0 < (seg L i).live) :
    Calls Try.prog 11 #[.pointer (some ⟨p, 0, none⟩), .int .i64 i] w fun e w' => e = .returned (.int .i64 16) ∧ w' = w := by
  have hl := ht.l
  have hs := ht.state i h
  have hv := ht.live i h
  have hss : ((seg L i).state == 0) = false := by simp; omega
  have hs2 : ((seg L i).state == 2) = false := by simp; omega
  clear hst hst2
  go_enter Try.func11, Try.ntmps11
  go_wp2
  go_ret
  exact ⟨rfl, rfl⟩

theorem release_ok (i : Nat) (ht : Tab w p c L size hand) (h : i < L.length) (hst : (seg L i).state ≠ 0) (hst2 : (seg L i).state ≠ 2) (hlv : (seg L i).live ≤ 0) :
    Calls Try.prog 11 #[.pointer (some ⟨p, 0, none⟩), .int .i64 i] w fun e w' => e = .returned (.int .i64 0) ∧
      Tab w' p c (L.set i ⟨(seg L i).live, 0, 0⟩) size hand ∧ Only (Two p c) w w' := by
  have hl := ht.l
  have hs := ht.state i h
  have hv := ht.live i h
  have ha := ht.age i h
  have f1 := ht.fc (i * 3 + 1)
  have f2 := ht.fc (i * 3 + 2)
  have hss : ((seg L i).state == 0) = false := by simp; omega
  have hs2 : ((seg L i).state == 2) = false := by simp; omega
  clear hst hst2
  go_enter Try.func11, Try.ntmps11
  go_wp2
  go_ret
  refine ⟨rfl, ?_, ?_⟩
  · have h2 := (ht.setState i h 0).setAge i (by simpa using h) 0
    have e : (L.set i { seg L i with state := 0 }).set i { seg (L.set i { seg L i with state := 0 }) i with age := 0 } = L.set i ⟨(seg L i).live, 0, 0⟩ := by
      simp [seg, h]
    rw [e] at h2
    exact h2
  · exact ((Only.refl _ w).setCell (.inl (.inr rfl)) _).setCell (.inl (.inr rfl)) _
end
end Go.Proofs.Ytfjkdkkljfgboaa
