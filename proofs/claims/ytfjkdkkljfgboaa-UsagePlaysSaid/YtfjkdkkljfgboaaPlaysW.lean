/-
  The walk of the law UsagePlays: it answers true and writes nothing that was there. Condition: the argument's cells hold numbers.
-/
import Derived.Test.YtfjkdkkljfgboaaTells
import Derived.Test.YtfjkdkkljfgboaaSumsW
import Derived.Deep.RegionWith
namespace Go.Proofs.Ytfjkdkkljfgboaa
open Go.RowKit
set_option linter.unusedVariables false

/-- What the loop keeps. -/
structure Pls (w wr : World) (p c r b n cap : Nat) (size : Int) (S : St) : Prop where
  t : Tab wr p c S.L size S.hand
  ref : RefAt wr r S.L
  box : wr.heap[b]? = some (.cells #[.slice (some ⟨r, 0, none⟩) n cap, .int .i64 size, .int .i64 (refH n S.hand)] 52)
  only : Only (fresh w.heap.size) w wr
  good : Good S size n

theorem refH_start (n : Nat) : refH n (-1) = (n : Int) - 1 := rfl

set_option maxRecDepth 100000 in
set_option maxHeartbeats 1000000 in
theorem plays_low (n z : Nat) (h1 : 1 ≤ n) (h2 : n ≤ 40) (a : Option Addr) (len cap : Nat) (w : World) (hl : len ≤ maxLen) (hrows : IntRows w a len 3) (h3 : 1 ≤ z) (h4 : z ≤ 64) :
    Calls Try.prog 7 #[.int .i64 n, .int .i64 z, .slice a len cap] w fun e w' => e = .returned (.bool true) ∧ Only (fun _ => False) w w' := by
  unfold maxLen at hl
  have HR := Lib.hid hrows
  clear hrows
  go_enter Try.func7, Try.ntmps7
  go_wp2_with fail
  refine (awake_any w).mono ?_
  rintro e w1 ⟨rfl, o1⟩
  go_wp2_with fail
  refine (new_tab n z w1 (by omega) (by omega) h3 h4).mono ?_
  rintro e w2 ⟨rfl, t2, o2⟩
  have hRn := rnew_ok n z w2 (by omega) (by omega) h3 h4
  rw [← refH_start] at hRn
  have hgood : Good ⟨List.replicate n Inf.zero, -1⟩ z n := good_new n z (by omega) (by omega) (by omega) (by omega)
  go_wp2_with fail
  refine hRn.mono ?_
  rintro e w3 ⟨r, cap3, rfl, r3, o3⟩
  clear hRn
  have t3 := t2.onlyF o3
  have hpw : w.heap.size ≤ w1.heap.size + 1 := by have := o1.size; omega
  have hcw : w.heap.size ≤ w1.heap.size := o1.size
  have o4 : Only (fresh w.heap.size) w w3 := (o1.mono fun _ _ h => h.elim).trans ((o2.trans o3).mono fun _ _ h => h.elim)
  have hbw : w.heap.size ≤ w3.heap.size := o4.size
  have P0 : Pls w (w3.alloc (.cells #[.slice (some ⟨r, 0, none⟩) n cap3, .int .i64 z, .int .i64 (refH n (-1))] 52)) (w1.heap.size + 1) w1.heap.size r w3.heap.size n cap3 z ⟨List.replicate n Inf.zero, -1⟩ :=
    ⟨t3.alloc _, r3.alloc _, heap_alloc_new _ _, o4.alloc _, hgood⟩
  have hpb : w1.heap.size + 1 ≠ w3.heap.size ∧ w1.heap.size ≠ w3.heap.size := by have := t3.plt; have := t3.clt; omega
  go_wp2_with fail
  clear t2 t3 r3 o3 o4 o2 o1 hgood
  generalize w3.alloc (.cells #[.slice (some ⟨r, 0, none⟩) n cap3, .int .i64 z, .int .i64 (refH n (-1))] 52) = w4 at P0 ⊢
  generalize w1.heap.size + 1 = p at *
  generalize w1.heap.size = c at *
  generalize w3.heap.size = b at *
  go_loopw [11] (fun i wr => ∃ (k r' cap' : Nat) (S : St), k ≤ 80 ∧ k ≤ len ∧ i = .int .i64 k ∧ Pls w wr p c r' b n cap' z S) (fun i _ => 80 - (intOf i).toNat)
  case atStart => exact ⟨0, r, cap3, _, Nat.zero_le _, Nat.zero_le _, rfl, P0⟩
  case round =>
    clear P0
    obtain ⟨k, r', cap', S, hk1, hk2, rfl, P⟩ := hrel
    by_cases hlt : k < len ∧ k < 80
    · obtain ⟨hlt1, hlt2⟩ := hlt
      obtain ⟨bs, off, ha, f, hf⟩ := (HR.out.later (by omega) P.only (fun k hk h => absurd hk (Nat.not_lt.2 h))) k hlt1
      subst ha
      have c0 : wr.cell? ⟨bs, off + k * 3, none⟩ = some (.int .i64 (f 0)) := hf 0 (by omega)
      have c1 : wr.cell? ⟨bs, off + k * 3 + 1, none⟩ = some (.int .i64 (f 1)) := hf 1 (by omega)
      have c2 : wr.cell? ⟨bs, off + k * 3 + 2, none⟩ = some (.int .i64 (f 2)) := hf 2 (by omega)
      clear hf
      generalize f 0 = x0 at c0
      generalize f 1 = x1 at c1
      generalize f 2 = x2 at c2
      obtain ⟨p0, p1, p2, p3, p4, p5⟩ := three P.box
      have hP := Play_any cap' x0 x1 x2 P.t.drew (show RefAt wr.drew r' S.L from P.ref) P.good
      have HP := Lib.hid hP
      clear hP
      go_wp2_with fail
      go_region_with (go_at_call 20; refine HP.out.mono ?_; rintro e w5 ⟨r5, cap5, rfl, s5, t5, o5⟩; have B5 := o5.keep (show wr.drew.heap[b]? = _ from P.box) (fun h => by rcases h with h | h <;> omega); obtain ⟨z0, z1, z2, z3, z4, z5⟩ := three B5)
      all_goals
        have X := three_set B5 (.slice (some ⟨r5, 0, none⟩) n cap5) (.int .i64 z) (.int .i64 (refH n (playF z x0 x1 x2 S).hand))
        have nb : ¬ Two p c b := fun h => by rcases h with h | h <;> omega
        have tX := t5.three (k := b) (fun e => nb (.inl e.symm)) (fun e => nb (.inr e.symm)) (.slice (some ⟨r5, 0, none⟩) n cap5) (.int .i64 z) (.int .i64 (refH n (playF z x0 x1 x2 S).hand))
        have rX := ((s5.poke (k := b) (s5.ne52 B5) 0 (.slice (some ⟨r5, 0, none⟩) n cap5)).poke (k := b) (s5.ne52 B5) 1 (.int .i64 z)).poke (k := b) (s5.ne52 B5) 2 (.int .i64 (refH n (playF z x0 x1 x2 S).hand))
        have oX := three_only (P.only.drew.fresh o5 hpw hcw) (k := b) (.inl hbw) (.slice (some ⟨r5, 0, none⟩) n cap5) (.int .i64 z) (.int .i64 (refH n (playF z x0 x1 x2 S).hand))
        have gX := good_playF P.good x0 x1 x2
        clear HP B5 z0 z1 z2 z3 z4 z5 p0 p1 p2 p3 p4 p5 c0 c1 c2 P s5 t5 o5
        generalize ((w5.setCell ⟨b, 0, none⟩ (.slice (some ⟨r5, 0, none⟩) n cap5)).setCell ⟨b, 1, none⟩ (.int .i64 z)).setCell ⟨b, 2, none⟩ (.int .i64 (refH n (playF z x0 x1 x2 S).hand)) = wx at X tX rX oX ⊢
        generalize playF z x0 x1 x2 S = S' at *
        have P5 : Pls w wx p c r5 b n cap5 z S' := ⟨tX, rX, X, oX, gX⟩
        obtain ⟨p0, p1, p2, p3, p4, p5⟩ := three X
        have hT := Tells_any cap5 (refH n S'.hand) tX rX gX.inv
        rw [gX.len] at hT
        clear tX rX oX X
        go_wp2_with fail
        refine hT.mono ?_
        rintro e w6 ⟨rfl, o6⟩
        clear hT p0 p1 p2 p3 p4 p5
        have P6 : Pls w w6 p c r5 b n cap5 z S' := ⟨P5.t.onlyF o6, P5.ref.onlyF o6, o6.keep P5.box (fun h => h), P5.only.trans (o6.mono fun _ _ h => h.elim), P5.good⟩
        clear P5
        go_wp2_with fail
        go_roundw
        case rel => exact ⟨k + 1, r5, cap5, S', by omega, by omega, by go_num, P6⟩
        case measure => simp [intOf]; omega
    · go_wp2_with fail
      all_goals
        go_ret
        exact ⟨rfl, P.only.mono fun k hk h => absurd hk (Nat.not_lt.2 h)⟩
set_option maxRecDepth 100000 in
set_option maxHeartbeats 1000000 in
theorem plays_high (a0 z : Nat) (h1 : 40 < a0) (h2 : a0 ≤ 512) (a : Option Addr) (len cap : Nat) (w : World) (hl : len ≤ maxLen) (hrows : IntRows w a len 3) (h3 : 1 ≤ z) (h4 : z ≤ 64) :
    Calls Try.prog 7 #[.int .i64 a0, .int .i64 z, .slice a len cap] w fun e w' => e = .returned (.bool true) ∧ Only (fun _ => False) w w' := by
  unfold maxLen at hl
  have HR := Lib.hid hrows
  clear hrows
  go_enter Try.func7, Try.ntmps7
  go_wp2_with fail
  refine (awake_any w).mono ?_
  rintro e w1 ⟨rfl, o1⟩
  go_wp2_with fail
  refine (new_tab 40 z w1 (by omega) (by omega) h3 h4).mono ?_
  rintro e w2 ⟨rfl, t2, o2⟩
  have hRn := rnew_ok 40 z w2 (by omega) (by omega) h3 h4
  rw [← refH_start] at hRn
  have hgood : Good ⟨List.replicate 40 Inf.zero, -1⟩ z 40 := good_new 40 z (by omega) (by omega) (by omega) (by omega)
  go_wp2_with fail
  refine hRn.mono ?_
  rintro e w3 ⟨r, cap3, rfl, r3, o3⟩
  clear hRn
  have t3 := t2.onlyF o3
  have hpw : w.heap.size ≤ w1.heap.size + 1 := by have := o1.size; omega
  have hcw : w.heap.size ≤ w1.heap.size := o1.size
  have o4 : Only (fresh w.heap.size) w w3 := (o1.mono fun _ _ h => h.elim).trans ((o2.trans o3).mono fun _ _ h => h.elim)
  have hbw : w.heap.size ≤ w3.heap.size := o4.size
  have P0 : Pls w (w3.alloc (.cells #[.slice (some ⟨r, 0, none⟩) 40 cap3, .int .i64 z, .int .i64 (refH 40 (-1))] 52)) (w1.heap.size + 1) w1.heap.size r w3.heap.size 40 cap3 z ⟨List.replicate 40 Inf.zero, -1⟩ :=
    ⟨t3.alloc _, r3.alloc _, heap_alloc_new _ _, o4.alloc _, hgood⟩
  have hpb : w1.heap.size + 1 ≠ w3.heap.size ∧ w1.heap.size ≠ w3.heap.size := by have := t3.plt; have := t3.clt; omega
  go_wp2_with fail
  clear t2 t3 r3 o3 o4 o2 o1 hgood
  generalize w3.alloc (.cells #[.slice (some ⟨r, 0, none⟩) 40 cap3, .int .i64 z, .int .i64 (refH 40 (-1))] 52) = w4 at P0 ⊢
  generalize w1.heap.size + 1 = p at *
  generalize w1.heap.size = c at *
  generalize w3.heap.size = b at *
  go_loopw [11] (fun i wr => ∃ (k r' cap' : Nat) (S : St), k ≤ 80 ∧ k ≤ len ∧ i = .int .i64 k ∧ Pls w wr p c r' b 40 cap' z S) (fun i _ => 80 - (intOf i).toNat)
  case atStart => exact ⟨0, r, cap3, _, Nat.zero_le _, Nat.zero_le _, rfl, P0⟩
  case round =>
    clear P0
    obtain ⟨k, r', cap', S, hk1, hk2, rfl, P⟩ := hrel
    by_cases hlt : k < len ∧ k < 80
    · obtain ⟨hlt1, hlt2⟩ := hlt
      obtain ⟨bs, off, ha, f, hf⟩ := (HR.out.later (by omega) P.only (fun k hk h => absurd hk (Nat.not_lt.2 h))) k hlt1
      subst ha
      have c0 : wr.cell? ⟨bs, off + k * 3, none⟩ = some (.int .i64 (f 0)) := hf 0 (by omega)
      have c1 : wr.cell? ⟨bs, off + k * 3 + 1, none⟩ = some (.int .i64 (f 1)) := hf 1 (by omega)
      have c2 : wr.cell? ⟨bs, off + k * 3 + 2, none⟩ = some (.int .i64 (f 2)) := hf 2 (by omega)
      clear hf
      generalize f 0 = x0 at c0
      generalize f 1 = x1 at c1
      generalize f 2 = x2 at c2
      obtain ⟨p0, p1, p2, p3, p4, p5⟩ := three P.box
      have hP := Play_any cap' x0 x1 x2 P.t.drew (show RefAt wr.drew r' S.L from P.ref) P.good
      have HP := Lib.hid hP
      clear hP
      go_wp2_with fail
      go_region_with (go_at_call 20; refine HP.out.mono ?_; rintro e w5 ⟨r5, cap5, rfl, s5, t5, o5⟩; have B5 := o5.keep (show wr.drew.heap[b]? = _ from P.box) (fun h => by rcases h with h | h <;> omega); obtain ⟨z0, z1, z2, z3, z4, z5⟩ := three B5)
      all_goals
        have X := three_set B5 (.slice (some ⟨r5, 0, none⟩) 40 cap5) (.int .i64 z) (.int .i64 (refH 40 (playF z x0 x1 x2 S).hand))
        have nb : ¬ Two p c b := fun h => by rcases h with h | h <;> omega
        have tX := t5.three (k := b) (fun e => nb (.inl e.symm)) (fun e => nb (.inr e.symm)) (.slice (some ⟨r5, 0, none⟩) 40 cap5) (.int .i64 z) (.int .i64 (refH 40 (playF z x0 x1 x2 S).hand))
        have rX := ((s5.poke (k := b) (s5.ne52 B5) 0 (.slice (some ⟨r5, 0, none⟩) 40 cap5)).poke (k := b) (s5.ne52 B5) 1 (.int .i64 z)).poke (k := b) (s5.ne52 B5) 2 (.int .i64 (refH 40 (playF z x0 x1 x2 S).hand))
        have oX := three_only (P.only.drew.fresh o5 hpw hcw) (k := b) (.inl hbw) (.slice (some ⟨r5, 0, none⟩) 40 cap5) (.int .i64 z) (.int .i64 (refH 40 (playF z x0 x1 x2 S).hand))
        have gX := good_playF P.good x0 x1 x2
        clear HP B5 z0 z1 z2 z3 z4 z5 p0 p1 p2 p3 p4 p5 c0 c1 c2 P s5 t5 o5
        generalize ((w5.setCell ⟨b, 0, none⟩ (.slice (some ⟨r5, 0, none⟩) 40 cap5)).setCell ⟨b, 1, none⟩ (.int .i64 z)).setCell ⟨b, 2, none⟩ (.int .i64 (refH 40 (playF z x0 x1 x2 S).hand)) = wx at X tX rX oX ⊢
        generalize playF z x0 x1 x2 S = S' at *
        have P5 : Pls w wx p c r5 b 40 cap5 z S' := ⟨tX, rX, X, oX, gX⟩
        obtain ⟨p0, p1, p2, p3, p4, p5⟩ := three X
        have hT := Tells_any cap5 (refH 40 S'.hand) tX rX gX.inv
        rw [gX.len] at hT
        clear tX rX oX X
        go_wp2_with fail
        refine hT.mono ?_
        rintro e w6 ⟨rfl, o6⟩
        clear hT p0 p1 p2 p3 p4 p5
        have P6 : Pls w w6 p c r5 b 40 cap5 z S' := ⟨P5.t.onlyF o6, P5.ref.onlyF o6, o6.keep P5.box (fun h => h), P5.only.trans (o6.mono fun _ _ h => h.elim), P5.good⟩
        clear P5
        go_wp2_with fail
        go_roundw
        case rel => exact ⟨k + 1, r5, cap5, S', by omega, by omega, by go_num, P6⟩
        case measure => simp [intOf]; omega
    · go_wp2_with fail
      all_goals
        go_ret
        exact ⟨rfl, P.only.mono fun k hk h => absurd hk (Nat.not_lt.2 h)⟩

theorem plays_no_small (a0 z : Int) (a : Option Addr) (len cap : Nat) (w : World) (h : a0 < 1 ∨ 512 < a0 ∨ z < 1 ∨ 64 < z) (h2 : a0 ≤ 40) :
    Calls Try.prog 7 #[.int .i64 a0, .int .i64 z, .slice a len cap] w fun e w' => e = .returned (.bool true) ∧ Only (fun _ => False) w w' := by
  go_enter Try.func7, Try.ntmps7
  go_wp2_with fail
  refine (awake_any w).mono ?_
  rintro e w1 ⟨rfl, o1⟩
  go_wp2_with fail
  refine (new_no a0 z w1 h).mono ?_
  rintro e w2 ⟨rfl, rfl⟩
  go_wp2_with fail
  refine (rnew_no a0 z w2 h).mono ?_
  rintro e w3 ⟨rfl, o3⟩
  go_wp2_with fail
  refine wp_loop_rounds 1 ?_
  rw [rounds_succ]
  go_wp2_with fail
  go_ret
  exact ⟨rfl, o1.trans (o3.alloc _)⟩

theorem plays_no_mid (a0 z : Int) (a : Option Addr) (len cap : Nat) (w : World) (h : (40 : Int) < 1 ∨ 512 < (40 : Int) ∨ z < 1 ∨ 64 < z) (h2 : 40 < a0) (h5 : a0 ≤ 512) :
    Calls Try.prog 7 #[.int .i64 a0, .int .i64 z, .slice a len cap] w fun e w' => e = .returned (.bool true) ∧ Only (fun _ => False) w w' := by
  go_enter Try.func7, Try.ntmps7
  go_wp2_with fail
  refine (awake_any w).mono ?_
  rintro e w1 ⟨rfl, o1⟩
  go_wp2_with fail
  refine (new_no 40 z w1 h).mono ?_
  rintro e w2 ⟨rfl, rfl⟩
  go_wp2_with fail
  refine (rnew_no 40 z w2 h).mono ?_
  rintro e w3 ⟨rfl, o3⟩
  go_wp2_with fail
  refine wp_loop_rounds 1 ?_
  rw [rounds_succ]
  go_wp2_with fail
  go_ret
  exact ⟨rfl, o1.trans (o3.alloc _)⟩

theorem plays_no_big (a0 z : Int) (a : Option Addr) (len cap : Nat) (w : World) (h : a0 < 1 ∨ 512 < a0 ∨ z < 1 ∨ 64 < z) (h2 : 40 < a0) (h5 : 512 < a0) :
    Calls Try.prog 7 #[.int .i64 a0, .int .i64 z, .slice a len cap] w fun e w' => e = .returned (.bool true) ∧ Only (fun _ => False) w w' := by
  go_enter Try.func7, Try.ntmps7
  go_wp2_with fail
  refine (awake_any w).mono ?_
  rintro e w1 ⟨rfl, o1⟩
  go_wp2_with fail
  refine (new_no a0 z w1 h).mono ?_
  rintro e w2 ⟨rfl, rfl⟩
  go_wp2_with fail
  refine (rnew_no a0 z w2 h).mono ?_
  rintro e w3 ⟨rfl, o3⟩
  go_wp2_with fail
  refine wp_loop_rounds 1 ?_
  rw [rounds_succ]
  go_wp2_with fail
  go_ret
  exact ⟨rfl, o1.trans (o3.alloc _)⟩

theorem plays_walk (a0 z : Int) (a : Option Addr) (len cap : Nat) (w : World) (hl : len ≤ maxLen) (hrows : IntRows w a len 3) :
    Calls Try.prog 7 #[.int .i64 a0, .int .i64 z, .slice a len cap] w fun e w' => e = .returned (.bool true) ∧ Only (fun _ => False) w w' := by
  by_cases hz : 1 ≤ z ∧ z ≤ 64
  · obtain ⟨y, rfl⟩ : ∃ y : Nat, z = y := ⟨z.toNat, by omega⟩
    by_cases h1 : a0 < 1
    · exact plays_no_small a0 y a len cap w (.inl h1) (by omega)
    by_cases h2 : a0 ≤ 40
    · obtain ⟨n, rfl⟩ : ∃ n : Nat, a0 = n := ⟨a0.toNat, by omega⟩
      exact plays_low n y (by omega) (by omega) a len cap w hl hrows (by omega) (by omega)
    by_cases h3 : a0 ≤ 512
    · obtain ⟨n, rfl⟩ : ∃ n : Nat, a0 = n := ⟨a0.toNat, by omega⟩
      exact plays_high n y (by omega) (by omega) a len cap w hl hrows (by omega) (by omega)
    · exact plays_no_big a0 y a len cap w (.inr (.inl (by omega))) (by omega) (by omega)
  · have hz' : z < 1 ∨ 64 < z := by omega
    by_cases h2 : a0 ≤ 40
    · exact plays_no_small a0 z a len cap w (.inr (.inr hz')) h2
    by_cases h3 : a0 ≤ 512
    · exact plays_no_mid a0 z a len cap w (.inr (.inr hz')) (by omega) h3
    · exact plays_no_big a0 z a len cap w (.inr (.inr hz')) (by omega) (by omega)
end Go.Proofs.Ytfjkdkkljfgboaa
