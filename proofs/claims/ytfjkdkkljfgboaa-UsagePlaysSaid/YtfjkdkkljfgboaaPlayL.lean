/-
  One call of a script on a table: the plain function on the list of segments, what it keeps, and the walk of the law's helper 'play'. Conditions: the table's facts.
-/
import Derived.Test.YtfjkdkkljfgboaaOnceL
namespace Go.Proofs.Ytfjkdkkljfgboaa
open Go.RowKit
set_option linter.unusedVariables false

structure St where
  L : List Inf
  hand : Int

def playS (size kind i n : Int) (S : St) : St :=
  if kind = 1 then ⟨addL S.L size i n, S.hand⟩
  else if kind = 2 then ⟨touchL S.L i n, S.hand⟩
  else if kind = 3 then ⟨takeL S.L S.hand, takeH S.L S.hand⟩
  else if kind = 4 then ⟨useL S.L i, S.hand⟩
  else if kind = 5 then ⟨relL S.L i, S.hand⟩
  else if kind = 7 then ⟨seizeLA S.L S.hand i, seizeH S.L S.hand i⟩
  else S

structure Good (S : St) (size : Int) (n : Nat) : Prop where
  inv : Inv S.L size S.hand
  act : Act1 S.L S.hand
  len : S.L.length = n

theorem good_new (n : Nat) (size : Int) (h1 : 1 ≤ n) (h2 : n ≤ 512) (h3 : 0 ≤ size) (h4 : size ≤ 64) : Good ⟨List.replicate n Inf.zero, -1⟩ size n :=
  ⟨inv_new n size h1 h2 h3 h4, act_new n, by simp⟩

theorem good_add {L : List Inf} {hand size : Int} {n : Nat} (h : Good ⟨L, hand⟩ size n) (i m : Int) : Good ⟨addL L size i m, hand⟩ size n :=
  ⟨inv_add h.inv _ _, act_add h.act _ _ _, by rw [len_addL]; exact h.len⟩
theorem touch_state (L : List Inf) (i n : Int) (k : Nat) : (seg (touchL L i n) k).state = (seg L k).state ∧ (seg (touchL L i n) k).live = (seg L k).live := by
  unfold touchL
  split
  · rename_i h
    rw [Bool.and_eq_true] at h
    rw [seg_upd _ _ _ _ (inR_lt h.1)]
    split <;> exact ⟨rfl, rfl⟩
  · exact ⟨rfl, rfl⟩
theorem len_touchL (L : List Inf) (i n : Int) : (touchL L i n).length = L.length := by unfold touchL; split <;> simp [len_upd]
theorem good_touch {L : List Inf} {hand size : Int} {n : Nat} (h : Good ⟨L, hand⟩ size n) (i m : Int) : Good ⟨touchL L i m, hand⟩ size n :=
  ⟨inv_same h.inv (len_touchL _ _ _) (fun k _ => (touch_state L i m k).2) h.inv.lo h.inv.hi,
    ⟨fun k hk => by rw [len_touchL] at hk; rw [(touch_state L i m k).1]; exact h.act.act k hk⟩, by rw [len_touchL]; exact h.len⟩
theorem good_seize {L : List Inf} {hand size : Int} {n : Nat} (h : Good ⟨L, hand⟩ size n) (j : Nat) (hj : j < L.length) : Good ⟨seizeL L hand j, j⟩ size n :=
  ⟨inv_seize h.inv h.act j hj, act_seize h.inv h.act j hj, by rw [len_seize]; exact h.len⟩
theorem spot_lt {L : List Inf} {hand size : Int} (h : Inv L size hand) (m : Nat) : spotOf L.length hand m < L.length := Nat.mod_lt _ h.pos
theorem good_take {L : List Inf} {hand size : Int} {n : Nat} (h : Good ⟨L, hand⟩ size n) : Good ⟨takeL L hand, takeH L hand⟩ size n := by
  unfold takeL takeH
  cases takeM L hand with
  | none => exact h
  | some m => exact good_seize h _ (spot_lt h.inv m)
theorem good_seizeA {L : List Inf} {hand size : Int} {n : Nat} (h : Good ⟨L, hand⟩ size n) (i : Int) : Good ⟨seizeLA L hand i, seizeH L hand i⟩ size n := by
  unfold seizeLA seizeH
  cases hR : inR L i with
  | false => exact h
  | true =>
    obtain ⟨j, rfl, hj⟩ := inR_yes hR
    exact good_seize h j hj
theorem good_use {L : List Inf} {hand size : Int} {n : Nat} (h : Good ⟨L, hand⟩ size n) (i : Int) : Good ⟨useL L i, hand⟩ size n := by
  unfold useL
  split
  · rename_i hc
    rw [Bool.and_eq_true] at hc
    obtain ⟨j, rfl, hj⟩ := inR_yes hc.1
    exact ⟨inv_use h.inv j hj, act_use h.act j hj (of_decide_eq_true hc.2), by rw [len_upd]; exact h.len⟩
  · exact h
theorem good_rel {L : List Inf} {hand size : Int} {n : Nat} (h : Good ⟨L, hand⟩ size n) (i : Int) : Good ⟨relL L i, hand⟩ size n := by
  unfold relL
  split
  · rename_i hc
    obtain ⟨j, rfl, hj⟩ := inR_yes hc
    exact ⟨inv_rel h.inv j hj, act_rel h.act j hj, by rw [len_upd]; exact h.len⟩
  · exact h
theorem good_play {S : St} {size : Int} {n : Nat} (h : Good S size n) (kind i m : Int) : Good (playS size kind i m S) size n := by
  unfold playS
  split
  · exact good_add h i m
  split
  · exact good_touch h i m
  split
  · exact good_take h
  split
  · exact good_use h i
  split
  · exact good_rel h i
  split
  · exact good_seizeA h i
  · exact h

section
variable {w : World} {p c : Nat} {size : Int} {S : St} {n : Nat}

set_option maxHeartbeats 1000000 in
theorem play_any (kind i m : Int) (ht : Tab w p c S.L size S.hand) (hG : Good S size n) :
    Calls Try.prog 18 #[.pointer (some ⟨p, 0, none⟩), .agg #[.int .i64 kind, .int .i64 i, .int .i64 m]] w fun e w' =>
      e = .returned (.tuple #[]) ∧ Tab w' p c (playS size kind i m S).L size (playS size kind i m S).hand ∧ Only (Two p c) w w' := by
  have t1 := ht.alloc (.cells #[.int .i64 kind, .int .i64 i, .int .i64 m] 46)
  have o1 : Only (Two p c) w (w.alloc (.cells #[.int .i64 kind, .int .i64 i, .int .i64 m] 46)) := (Only.refl _ _).alloc _
  by_cases k1 : kind = 1
  · subst k1
    have h := add_any i m t1 hG.inv
    go_enter Try.func18, Try.ntmps18
    go_wp2_with fail
    refine h.mono ?_
    rintro e w4 ⟨rfl, t4, o4⟩
    clear h
    go_wp2_with fail
    go_end0
    exact ⟨rfl, t4, o1.trans o4⟩
  by_cases k2 : kind = 2
  · subst k2
    have h := touch_any i m t1
    go_enter Try.func18, Try.ntmps18
    go_wp2_with fail
    refine h.mono ?_
    rintro e w4 ⟨rfl, t4, o4⟩
    clear h
    go_wp2_with fail
    go_end0
    exact ⟨rfl, t4, o1.trans o4⟩
  by_cases k3 : kind = 3
  · subst k3
    have h := take_any t1 hG.inv
    go_enter Try.func18, Try.ntmps18
    go_wp2_with fail
    refine h.mono ?_
    rintro e w4 ⟨rfl, t4, o4⟩
    clear h
    go_wp2_with fail
    go_end0
    exact ⟨rfl, t4, o1.trans o4⟩
  by_cases k4 : kind = 4
  · subst k4
    have h := use_any i t1
    go_enter Try.func18, Try.ntmps18
    go_wp2_with fail
    refine h.mono ?_
    rintro e w4 ⟨rfl, t4, o4⟩
    clear h
    go_wp2_with fail
    go_end0
    exact ⟨rfl, t4, o1.trans o4⟩
  by_cases k5 : kind = 5
  · subst k5
    have h := rel_any i t1
    go_enter Try.func18, Try.ntmps18
    go_wp2_with fail
    refine h.mono ?_
    rintro e w4 ⟨rfl, t4, o4⟩
    clear h
    go_wp2_with fail
    go_end0
    exact ⟨rfl, t4, o1.trans o4⟩
  by_cases k7 : kind = 7
  · subst k7
    have h := sei_any i t1 hG.inv
    go_enter Try.func18, Try.ntmps18
    go_wp2_with fail
    refine h.mono ?_
    rintro e w4 ⟨rfl, t4, o4⟩
    clear h
    go_wp2_with fail
    go_end0
    exact ⟨rfl, t4, o1.trans o4⟩
  have e : playS size kind i m S = S := by unfold playS; rw [if_neg k1, if_neg k2, if_neg k3, if_neg k4, if_neg k5, if_neg k7]
  rw [e]
  clear e
  have b1 : (kind == 1) = false := beq_eq_false_iff_ne.2 k1
  have b2 : (kind == 2) = false := beq_eq_false_iff_ne.2 k2
  have b3 : (kind == 3) = false := beq_eq_false_iff_ne.2 k3
  have b4 : (kind == 4) = false := beq_eq_false_iff_ne.2 k4
  have b5 : (kind == 5) = false := beq_eq_false_iff_ne.2 k5
  have b7 : (kind == 7) = false := beq_eq_false_iff_ne.2 k7
  clear k1 k2 k3 k4 k5 k7
  go_enter Try.func18, Try.ntmps18
  go_wp2_with fail
  go_end0
  exact ⟨rfl, t1, o1⟩
end
end Go.Proofs.Ytfjkdkkljfgboaa
