/-
  The walk of PickOrders: it returns true. No condition.
-/
import Derived.Test.YtojhleijpcghoaaPbw
namespace Go.Proofs.Ytojhleijpcghoaa
open Go.RowKit
set_option linter.unusedVariables false

theorem three_cds (x y z : Cd) (w : World) : CdsAt (w.alloc (.cells #[.int .i64 x.seg, .int .i64 x.live, .int .i64 x.cap, .int .i64 x.age, .int .i64 y.seg, .int .i64 y.live, .int .i64 y.cap, .int .i64 y.age, .int .i64 z.seg, .int .i64 z.live, .int .i64 z.cap, .int .i64 z.age] 35)) (some ⟨w.heap.size, 0, none⟩) [x, y, z] := cds_block (heap_alloc_new w _) rfl
theorem three_check (x y z : Cd) (w : World) : Calls Try.prog 14 #[.slice (some ⟨w.heap.size, 0, none⟩) 3 3] (w.alloc (.cells #[.int .i64 x.seg, .int .i64 x.live, .int .i64 x.cap, .int .i64 x.age, .int .i64 y.seg, .int .i64 y.live, .int .i64 y.cap, .int .i64 y.age, .int .i64 z.seg, .int .i64 z.live, .int .i64 z.cap, .int .i64 z.age] 35)) fun e w' => e = .returned (.int .i64 (chkC [x, y, z])) ∧ Only (fun _ => False) w w' :=
  (check_any (some ⟨w.heap.size, 0, none⟩) 3 [x, y, z] _ (by unfold maxLen; simp) (three_cds x y z w)).mono fun e w' h => ⟨h.1, ((Only.refl _ w).alloc _).trans h.2⟩
/-- What ref answers on three. -/
def Ref3 (x y z : Cd) (w : World) (e : Ending) (w' : World) : Prop := ∃ g c, e = .returned (.slice (some ⟨g, 0, none⟩) 3 c) ∧ CdsAt w' (some ⟨g, 0, none⟩) [x, y, z] ∧ Only (fun _ => False) w w'
theorem three_ref (x y z : Cd) (w : World) : Calls Try.prog 12 #[.slice (some ⟨w.heap.size, 0, none⟩) 3 3] (w.alloc (.cells #[.int .i64 x.seg, .int .i64 x.live, .int .i64 x.cap, .int .i64 x.age, .int .i64 y.seg, .int .i64 y.live, .int .i64 y.cap, .int .i64 y.age, .int .i64 z.seg, .int .i64 z.live, .int .i64 z.cap, .int .i64 z.age] 35)) (Ref3 x y z w) :=
  (ref_any (some ⟨w.heap.size, 0, none⟩) 3 [x, y, z] _ (by simp) (three_cds x y z w)).mono fun e w' h => by
    obtain ⟨v, rfl, hO, o⟩ := h
    obtain ⟨g, c, rfl, -, -⟩ := hO.form (by simp)
    exact ⟨g, c, rfl, own_cds2 hO rfl, ((Only.refl _ w).alloc _).trans o⟩
/-- The cells that PickOrders reads. -/
def OdAt (w : World) (b0 b1 g : Nat) (x y : Cd) : Prop :=
  w.cell? ⟨b0, 0, none⟩ = some (.int .i64 x.seg) ∧ w.cell? ⟨b0, 1, none⟩ = some (.int .i64 x.live) ∧ w.cell? ⟨b0, 2, none⟩ = some (.int .i64 x.cap) ∧ w.cell? ⟨b0, 3, none⟩ = some (.int .i64 x.age) ∧ w.cell? ⟨b1, 0, none⟩ = some (.int .i64 y.seg) ∧ w.cell? ⟨b1, 1, none⟩ = some (.int .i64 y.live) ∧ w.cell? ⟨b1, 2, none⟩ = some (.int .i64 y.cap) ∧ w.cell? ⟨b1, 3, none⟩ = some (.int .i64 y.age) ∧ w.cell? ⟨g, 0, none⟩ = some (.int .i64 x.seg) ∧ w.cell? ⟨g, 1, none⟩ = some (.int .i64 x.live) ∧ w.cell? ⟨g, 2, none⟩ = some (.int .i64 x.cap) ∧ w.cell? ⟨g, 3, none⟩ = some (.int .i64 x.age) ∧ w.cell? ⟨g, 4, none⟩ = some (.int .i64 y.seg) ∧ w.cell? ⟨g, 5, none⟩ = some (.int .i64 y.live) ∧ w.cell? ⟨g, 6, none⟩ = some (.int .i64 y.cap) ∧ w.cell? ⟨g, 7, none⟩ = some (.int .i64 y.age)
theorem OdAt.only {w w' : World} {b0 b1 g : Nat} {x y : Cd} (h : OdAt w b0 b1 g x y) (o : Only (fun _ => False) w w') : OdAt w' b0 b1 g x y := by
  have key : ∀ {x j : Nat} {v : Value}, w.cell? ⟨x, j, none⟩ = some v → w'.cell? ⟨x, j, none⟩ = some v := fun h =>
    (World.cell?_of_block (o.block _ (World.block_lt_of_cell? _ _ h) (fun z => z))).trans h
  obtain ⟨q0, q1, q2, q3, q4, q5, q6, q7, q8, q9, q10, q11, q12, q13, q14, q15⟩ := h
  exact ⟨key q0, key q1, key q2, key q3, key q4, key q5, key q6, key q7, key q8, key q9, key q10, key q11, key q12, key q13, key q14, key q15⟩
theorem OdAt.of {w : World} {b0 b1 g : Nat} {x y z : Cd} (h0 : w.heap[b0]? = some (.cells #[.int .i64 x.seg, .int .i64 x.live, .int .i64 x.cap, .int .i64 x.age] 35 (0, 0))) (h1 : w.heap[b1]? = some (.cells #[.int .i64 y.seg, .int .i64 y.live, .int .i64 y.cap, .int .i64 y.age] 35 (0, 0)))
    (hA : CdsAt w (some ⟨g, 0, none⟩) [x, y, z]) : OdAt w b0 b1 g x y := by
  obtain ⟨x0, x1, x2, x3⟩ := four h0
  obtain ⟨y0, y1, y2, y3⟩ := four h1
  obtain ⟨u0, u1, u2, u3⟩ := cds_at (k := 0) hA (by simp) rfl
  obtain ⟨v0, v1, v2, v3⟩ := cds_at (k := 1) hA (by simp) rfl
  exact ⟨x0, x1, x2, x3, y0, y1, y2, y3, u0, u1, u2, u3, v0, v1, v2, v3⟩

def agv (c : Cd) : Value := .agg #[.int .i64 c.seg, .int .i64 c.live, .int .i64 c.cap, .int .i64 c.age]
theorem bet_is (x y : Cd) (b : Bool) (w : World) (hx : Gd x) (hy : Gd y) (h : betC x y = b) :
    Calls Try.prog 16 #[.agg #[.int .i64 x.seg, .int .i64 x.live, .int .i64 x.cap, .int .i64 x.age], .agg #[.int .i64 y.seg, .int .i64 y.live, .int .i64 y.cap, .int .i64 y.age]] w fun e w' =>
      e = .returned (.bool b) ∧ Only (fun _ => False) w w' := by
  rw [← h]
  exact better_any x y w hx hy
theorem rbet_is (x y : Cd) (b : Bool) (w : World) (hx : Gd x) (hy : Gd y) (h : betC x y = b) :
    Calls Try.prog 17 #[.agg #[.int .i64 x.seg, .int .i64 x.live, .int .i64 x.cap, .int .i64 x.age], .agg #[.int .i64 y.seg, .int .i64 y.live, .int .i64 y.cap, .int .i64 y.age]] w fun e w' =>
      e = .returned (.bool b) ∧ Only (fun _ => False) w w' := by
  rw [← h]
  exact rbetter_any x y w hx hy

set_option maxRecDepth 100000 in
set_option maxHeartbeats 4000000 in
theorem orders_walk (x y z : Cd) (w : World) :
    Calls Try.prog 4 #[.agg #[.int .i64 x.seg, .int .i64 x.live, .int .i64 x.cap, .int .i64 x.age], .agg #[.int .i64 y.seg, .int .i64 y.live, .int .i64 y.cap, .int .i64 y.age], .agg #[.int .i64 z.seg, .int .i64 z.live, .int .i64 z.cap, .int .i64 z.age]] w
      fun e w' => e = .returned (.bool true) ∧ Only (fun _ => False) w w' := by
  go_enter Try.func4, Try.ntmps4
  go_wp2_with fail
  have oW : Only (fun _ => False) w (((w.alloc (.cells #[.int .i64 x.seg, .int .i64 x.live, .int .i64 x.cap, .int .i64 x.age] 35)).alloc (.cells #[.int .i64 y.seg, .int .i64 y.live, .int .i64 y.cap, .int .i64 y.age] 35)).alloc (.cells #[.int .i64 z.seg, .int .i64 z.live, .int .i64 z.cap, .int .i64 z.age] 35)) := (((Only.refl _ _).alloc _).alloc _).alloc _
  obtain ⟨B0, B1, B2⟩ := three_new w (.cells #[.int .i64 x.seg, .int .i64 x.live, .int .i64 x.cap, .int .i64 x.age] 35) (.cells #[.int .i64 y.seg, .int .i64 y.live, .int .i64 y.cap, .int .i64 y.age] 35) (.cells #[.int .i64 z.seg, .int .i64 z.live, .int .i64 z.cap, .int .i64 z.age] 35)
  generalize (((w.alloc (.cells #[.int .i64 x.seg, .int .i64 x.live, .int .i64 x.cap, .int .i64 x.age] 35)).alloc (.cells #[.int .i64 y.seg, .int .i64 y.live, .int .i64 y.cap, .int .i64 y.age] 35)).alloc (.cells #[.int .i64 z.seg, .int .i64 z.live, .int .i64 z.cap, .int .i64 z.age] 35)) = W at *
  generalize w.heap.size + 1 + 1 = b2 at *
  generalize w.heap.size + 1 = b1 at *
  generalize w.heap.size = b0 at *
  refine (awake_any _).mono ?_
  rintro e w1 ⟨rfl, o1⟩
  have K0 := o1.keep B0 (fun h => h)
  have K1 := o1.keep B1 (fun h => h)
  have K2 := o1.keep B2 (fun h => h)
  have HK := Lib.hid (And.intro K0 (And.intro K1 K2))
  obtain ⟨x0, x1, x2, x3⟩ := four K0
  obtain ⟨y0, y1, y2, y3⟩ := four K1
  obtain ⟨z0, z1, z2, z3⟩ := four K2
  clear B0 B1 B2 K0 K1 K2
  have o01 := oW.trans o1
  clear oW o1
  rcases chk_two [x, y, z] with hc | hc
  · have hck := three_check x y z w1
    have hrf := three_ref x y z
    rw [hc] at hck
    have HG := gd_chk hc
    have hgx : Gd x := HG x (by simp)
    have hgy : Gd y := HG y (by simp)
    have hgz : Gd z := HG z (by simp)
    have HRf := Lib.hid hrf
    have HGx := Lib.hid (And.intro hgx (And.intro hgy hgz))
    clear hc HG hrf hgx hgy hgz
    go_wp2_with fail
    refine hck.mono ?_
    rintro e w2 ⟨rfl, o2⟩
    obtain ⟨K0, K1, K2⟩ := HK.out
    have HK2 := Lib.hid (And.intro (o2.keep K0 (fun h => h)) (And.intro (o2.keep K1 (fun h => h)) (o2.keep K2 (fun h => h))))
    obtain ⟨x0, x1, x2, x3⟩ := four HK2.out.1
    obtain ⟨y0, y1, y2, y3⟩ := four HK2.out.2.1
    obtain ⟨z0, z1, z2, z3⟩ := four HK2.out.2.2
    clear hck K0 K1 K2
    go_wp2_with fail
    refine (HRf.out w2).mono ?_
    rintro e w3 ⟨g, c, rfl, hA, o3⟩
    have HK3 := Lib.hid (And.intro (o3.keep HK2.out.1 (fun h => h)) (And.intro (o3.keep HK2.out.2.1 (fun h => h)) (o3.keep HK2.out.2.2 (fun h => h))))
    have oo := (o01.trans o2).trans o3
    have hOd := OdAt.of HK3.out.1 HK3.out.2.1 hA
    have HOd := Lib.hid hOd
    clear o01 o2 o3 x0 x1 x2 x3 y0 y1 y2 y3 z0 z1 z2 z3 HK2 HK hA hOd
    go_wp2_with fail
    cases hb : betC x y with
    | true =>
      have hAB := fun w => bet_is x y true w HGx.out.1 HGx.out.2.1 hb
      have hRR := fun w => rbet_is x y true w HGx.out.1 HGx.out.2.1 hb
      have hBA := fun w => bet_is y x false w HGx.out.2.1 HGx.out.1 (bet_asymm hb)
      have hAA := fun w => bet_is x x false w HGx.out.1 HGx.out.1 (bet_irrefl x)
      have HAB := Lib.hid hAB
      have HRR := Lib.hid hRR
      have HBA := Lib.hid hBA
      have HAA := Lib.hid hAA
      obtain ⟨q0, q1, q2, q3, q4, q5, q6, q7, q8, q9, q10, q11, q12, q13, q14, q15⟩ := HOd.out
      have oc : Only (fun _ => False) w3 w3.drew := (Only.refl _ _).drew
      have HB := Lib.hid hb
      clear hAB hRR hBA hAA hb
      go_region_held3 (fun w' => w'.cell? ⟨b0, 0, none⟩ = some (.int .i64 x.seg) ∧ w'.cell? ⟨b0, 1, none⟩ = some (.int .i64 x.live) ∧ w'.cell? ⟨b0, 2, none⟩ = some (.int .i64 x.cap) ∧ w'.cell? ⟨b0, 3, none⟩ = some (.int .i64 x.age) ∧ w'.cell? ⟨b1, 0, none⟩ = some (.int .i64 y.seg) ∧ w'.cell? ⟨b1, 1, none⟩ = some (.int .i64 y.live) ∧ w'.cell? ⟨b1, 2, none⟩ = some (.int .i64 y.cap) ∧ w'.cell? ⟨b1, 3, none⟩ = some (.int .i64 y.age) ∧ w'.cell? ⟨g, 0, none⟩ = some (.int .i64 x.seg) ∧ w'.cell? ⟨g, 1, none⟩ = some (.int .i64 x.live) ∧ w'.cell? ⟨g, 2, none⟩ = some (.int .i64 x.cap) ∧ w'.cell? ⟨g, 3, none⟩ = some (.int .i64 x.age) ∧ w'.cell? ⟨g, 4, none⟩ = some (.int .i64 y.seg) ∧ w'.cell? ⟨g, 5, none⟩ = some (.int .i64 y.live) ∧ w'.cell? ⟨g, 6, none⟩ = some (.int .i64 y.cap) ∧ w'.cell? ⟨g, 7, none⟩ = some (.int .i64 y.age)) (go_keep)
        (first
          | ((go_at_call 16; refine (HAB.out _).mono ?_; rintro e wX ⟨rfl, oX⟩; have oc := Only.trans oc oX; obtain ⟨q0, q1, q2, q3, q4, q5, q6, q7, q8, q9, q10, q11, q12, q13, q14, q15⟩ := HOd.out.only oc))
          | ((go_at_call 17; refine (HRR.out _).mono ?_; rintro e wX ⟨rfl, oX⟩; have oc := Only.trans oc oX; obtain ⟨q0, q1, q2, q3, q4, q5, q6, q7, q8, q9, q10, q11, q12, q13, q14, q15⟩ := HOd.out.only oc))
          | ((go_at_call 16; refine (HBA.out _).mono ?_; rintro e wX ⟨rfl, oX⟩; have oc := Only.trans oc oX; obtain ⟨q0, q1, q2, q3, q4, q5, q6, q7, q8, q9, q10, q11, q12, q13, q14, q15⟩ := HOd.out.only oc))
          | ((go_at_call 16; refine (HAA.out _).mono ?_; rintro e wX ⟨rfl, oX⟩; have oc := Only.trans oc oX; obtain ⟨q0, q1, q2, q3, q4, q5, q6, q7, q8, q9, q10, q11, q12, q13, q14, q15⟩ := HOd.out.only oc)))
      all_goals
        go_wp2_with fail
        refine (HAB.out _).mono ?_
        rintro e w5 ⟨rfl, o5⟩
        have oc5 := Only.trans oc o5
        obtain ⟨y0, y1, y2, y3⟩ := four (oc5.keep HK3.out.2.1 (fun h => h))
        obtain ⟨z0, z1, z2, z3⟩ := four (oc5.keep HK3.out.2.2 (fun h => h))
        cases hb2 : betC y z with
        | false =>
          have HBC := Lib.hid (fun w => bet_is y z false w HGx.out.2.1 HGx.out.2.2 hb2)
          clear hb2
          go_wp2_with fail
          refine (HBC.out _).mono ?_
          rintro e w6 ⟨rfl, o6⟩
          go_wp2_with fail
          go_ret
          exact ⟨rfl, oo.trans (oc5.trans o6)⟩
        | true =>
          have HBC := Lib.hid (fun w => bet_is y z true w HGx.out.2.1 HGx.out.2.2 hb2)
          have HAC := Lib.hid (fun w => bet_is x z true w HGx.out.1 HGx.out.2.2 (bet_trans HGx.out.1 HGx.out.2.1 HGx.out.2.2 HB.out hb2))
          clear hb2
          go_wp2_with fail
          refine (HBC.out _).mono ?_
          rintro e w6 ⟨rfl, o6⟩
          have oc6 := oc5.trans o6
          obtain ⟨x0, x1, x2, x3⟩ := four (oc6.keep HK3.out.1 (fun h => h))
          obtain ⟨z0, z1, z2, z3⟩ := four (oc6.keep HK3.out.2.2 (fun h => h))
          go_wp2_with fail
          refine (HAC.out _).mono ?_
          rintro e w7 ⟨rfl, o7⟩
          go_wp2_with fail
          go_ret
          exact ⟨rfl, oo.trans (oc6.trans o7)⟩
    | false =>
      have hAB := fun w => bet_is x y false w HGx.out.1 HGx.out.2.1 hb
      have hRR := fun w => rbet_is x y false w HGx.out.1 HGx.out.2.1 hb
      have hAA := fun w => bet_is x x false w HGx.out.1 HGx.out.1 (bet_irrefl x)
      have HAB := Lib.hid hAB
      have HRR := Lib.hid hRR
      have HAA := Lib.hid hAA
      obtain ⟨q0, q1, q2, q3, q4, q5, q6, q7, q8, q9, q10, q11, q12, q13, q14, q15⟩ := HOd.out
      have oc : Only (fun _ => False) w3 w3.drew := (Only.refl _ _).drew
      have HB := Lib.hid hb
      clear hAB hRR hAA hb
      refine wp_region_held_drew (S := (fun w' => w'.cell? ⟨b0, 0, none⟩ = some (.int .i64 x.seg) ∧ w'.cell? ⟨b0, 1, none⟩ = some (.int .i64 x.live) ∧ w'.cell? ⟨b0, 2, none⟩ = some (.int .i64 x.cap) ∧ w'.cell? ⟨b0, 3, none⟩ = some (.int .i64 x.age) ∧ w'.cell? ⟨b1, 0, none⟩ = some (.int .i64 y.seg) ∧ w'.cell? ⟨b1, 1, none⟩ = some (.int .i64 y.live) ∧ w'.cell? ⟨b1, 2, none⟩ = some (.int .i64 y.cap) ∧ w'.cell? ⟨b1, 3, none⟩ = some (.int .i64 y.age) ∧ w'.cell? ⟨g, 0, none⟩ = some (.int .i64 x.seg) ∧ w'.cell? ⟨g, 1, none⟩ = some (.int .i64 x.live) ∧ w'.cell? ⟨g, 2, none⟩ = some (.int .i64 x.cap) ∧ w'.cell? ⟨g, 3, none⟩ = some (.int .i64 x.age) ∧ w'.cell? ⟨g, 4, none⟩ = some (.int .i64 y.seg) ∧ w'.cell? ⟨g, 5, none⟩ = some (.int .i64 y.live) ∧ w'.cell? ⟨g, 6, none⟩ = some (.int .i64 y.cap) ∧ w'.cell? ⟨g, 7, none⟩ = some (.int .i64 y.age))) (by kernel_rfl) ?_ (fun hHeld => ?_)
      · go_keep
      refine wpAnyH_take (i := 0) (oi := { dst := some 28, op := Op.load 35 (Operand.tmp 3), type := 35, pos := "law.go:77", after := #[], guard := none }) (v := ?_) rfl (by kernel_rfl) (by kernel_rfl) (by kernel_rfl) (fun _ _ _ h => h) (Or.inl ⟨by rfl, ?_⟩) (by assumption) ?_
      rotate_left
      · (intro w hSw; (try dsimp only at hSw); go_simp <;> with_reducible rfl)
      try simp only [Act.put, List.setIfInBounds_toArray, List.set_cons_zero, List.set_cons_succ]
      refine wpAnyH_take (i := 1) (oi := { dst := some 29, op := Op.load 35 (Operand.tmp 4), type := 35, pos := "law.go:77", after := #[], guard := none }) (v := ?_) rfl (by kernel_rfl) (by kernel_rfl) (by kernel_rfl) (fun _ _ _ h => h) (Or.inl ⟨by rfl, ?_⟩) (by assumption) ?_
      rotate_left
      · (intro w hSw; (try dsimp only at hSw); go_simp <;> with_reducible rfl)
      try simp only [Act.put, List.setIfInBounds_toArray, List.set_cons_zero, List.set_cons_succ]
      refine wpAnyH_take (i := 3) (oi := { dst := some 31, op := Op.move (Operand.tmp 7), type := 27, pos := "law.go:77", after := #[], guard := none }) (v := ?_) rfl (by kernel_rfl) (by kernel_rfl) (by kernel_rfl) (fun _ _ _ h => h) (Or.inl ⟨by rfl, ?_⟩) (by assumption) ?_
      rotate_left
      · (intro w hSw; (try dsimp only at hSw); go_simp <;> with_reducible rfl)
      try simp only [Act.put, List.setIfInBounds_toArray, List.set_cons_zero, List.set_cons_succ]
      refine wpAnyH_take (i := 4) (oi := { dst := some 32, op := Op.indexAddr 27 (Operand.tmp 31) (Operand.const (Value.int IntKind.i64 0)), type := 0, pos := "law.go:77", after := #[{ on := 3, ground := Ground.data }], guard := none }) (v := ?_) rfl (by kernel_rfl) (by kernel_rfl) (by kernel_rfl) (fun _ _ _ h => h) (Or.inl ⟨by rfl, ?_⟩) (by assumption) ?_
      rotate_left
      · (intro w hSw; (try dsimp only at hSw); go_simp <;> with_reducible rfl)
      try simp only [Act.put, List.setIfInBounds_toArray, List.set_cons_zero, List.set_cons_succ]
      refine wpAnyH_take (i := 5) (oi := { dst := some 33, op := Op.load 39 (Operand.tmp 32), type := 39, pos := "law.go:77", after := #[{ on := 4, ground := Ground.data }], guard := none }) (v := ?_) rfl (by kernel_rfl) (by kernel_rfl) (by kernel_rfl) (fun _ _ _ h => h) (Or.inl ⟨by rfl, ?_⟩) (by assumption) ?_
      rotate_left
      · (intro w hSw; (try dsimp only at hSw); go_simp <;> with_reducible rfl)
      try simp only [Act.put, List.setIfInBounds_toArray, List.set_cons_zero, List.set_cons_succ]
      refine wpAnyH_take (i := 6) (oi := { dst := some 34, op := Op.move (Operand.tmp 7), type := 27, pos := "law.go:77", after := #[], guard := none }) (v := ?_) rfl (by kernel_rfl) (by kernel_rfl) (by kernel_rfl) (fun _ _ _ h => h) (Or.inl ⟨by rfl, ?_⟩) (by assumption) ?_
      rotate_left
      · (intro w hSw; (try dsimp only at hSw); go_simp <;> with_reducible rfl)
      try simp only [Act.put, List.setIfInBounds_toArray, List.set_cons_zero, List.set_cons_succ]
      refine wpAnyH_take (i := 7) (oi := { dst := some 35, op := Op.indexAddr 27 (Operand.tmp 34) (Operand.const (Value.int IntKind.i64 1)), type := 0, pos := "law.go:77", after := #[{ on := 6, ground := Ground.data }], guard := none }) (v := ?_) rfl (by kernel_rfl) (by kernel_rfl) (by kernel_rfl) (fun _ _ _ h => h) (Or.inl ⟨by rfl, ?_⟩) (by assumption) ?_
      rotate_left
      · (intro w hSw; (try dsimp only at hSw); go_simp <;> with_reducible rfl)
      try simp only [Act.put, List.setIfInBounds_toArray, List.set_cons_zero, List.set_cons_succ]
      refine wpAnyH_take (i := 8) (oi := { dst := some 36, op := Op.load 39 (Operand.tmp 35), type := 39, pos := "law.go:77", after := #[{ on := 7, ground := Ground.data }], guard := none }) (v := ?_) rfl (by kernel_rfl) (by kernel_rfl) (by kernel_rfl) (fun _ _ _ h => h) (Or.inl ⟨by rfl, ?_⟩) (by assumption) ?_
      rotate_left
      · (intro w hSw; (try dsimp only at hSw); go_simp <;> with_reducible rfl)
      try simp only [Act.put, List.setIfInBounds_toArray, List.set_cons_zero, List.set_cons_succ]
      refine wpAnyH_ready (rs := [2]) (by kernel_rfl) (by simp) ?_
      refine AllReadyH.cons (o := { dst := some 30, op := Op.call { callee := Callee.value (Operand.func 16), args := #[Operand.tmp 28, Operand.tmp 29], argTypes := #[35, 35] }, type := 4, pos := "law.go:77", after := #[{ on := 0, ground := Ground.data }, { on := 1, ground := Ground.data }], guard := none }) rfl (fun K hK => ?_) AllReadyH.nil
      go_simp
      go_at_call 16
      refine (HAB.out _).mono ?_
      rintro e wX ⟨rfl, oX⟩
      have oc := Only.trans oc oX
      obtain ⟨q0, q1, q2, q3, q4, q5, q6, q7, q8, q9, q10, q11, q12, q13, q14, q15⟩ := HOd.out.only oc
      go_wp2_with fail
      refine hK.out _ _ ?_ (fun hHeld => ?_)
      · go_keep
      clear hK K
      try simp only [Act.put, List.setIfInBounds_toArray, List.set_cons_zero, List.set_cons_succ]
      refine wpAnyH_ready (rs := [9]) (by kernel_rfl) (by simp) ?_
      refine AllReadyH.cons (o := { dst := some 37, op := Op.call { callee := Callee.value (Operand.func 17), args := #[Operand.tmp 33, Operand.tmp 36], argTypes := #[39, 39] }, type := 4, pos := "law.go:77", after := #[{ on := 5, ground := Ground.data }, { on := 8, ground := Ground.data }, { on := 2, ground := Ground.chain }], guard := none }) rfl (fun K hK => ?_) AllReadyH.nil
      go_simp
      go_at_call 17
      refine (HRR.out _).mono ?_
      rintro e wX ⟨rfl, oX⟩
      have oc := Only.trans oc oX
      obtain ⟨q0, q1, q2, q3, q4, q5, q6, q7, q8, q9, q10, q11, q12, q13, q14, q15⟩ := HOd.out.only oc
      go_wp2_with fail
      refine hK.out _ _ ?_ (fun hHeld => ?_)
      · go_keep
      clear hK K
      try simp only [Act.put, List.setIfInBounds_toArray, List.set_cons_zero, List.set_cons_succ]
      refine wpAnyH_take (i := 10) (oi := { dst := some 38, op := Op.binOp BinOp.neq 4 (Operand.tmp 30) (Operand.tmp 37) 4, type := 4, pos := "law.go:77", after := #[{ on := 2, ground := Ground.data }, { on := 9, ground := Ground.data }], guard := none }) (v := ?_) rfl (by kernel_rfl) (by kernel_rfl) (by kernel_rfl) (fun _ _ _ h => h) (Or.inl ⟨by rfl, ?_⟩) (by assumption) ?_
      rotate_left
      · (intro w hSw; (try dsimp only at hSw); go_simp <;> with_reducible rfl)
      try simp only [Act.put, List.setIfInBounds_toArray, List.set_cons_zero, List.set_cons_succ]
      refine wpAnyH_take (i := 11) (oi := { dst := some 39, op := Op.move (Operand.tmp 38), type := 4, pos := "law.go:77", after := #[{ on := 10, ground := Ground.data }, { on := 9, ground := Ground.chain }], guard := none }) (v := ?_) rfl (by kernel_rfl) (by kernel_rfl) (by kernel_rfl) (fun _ _ _ h => h) (Or.inl ⟨by rfl, ?_⟩) (by assumption) ?_
      rotate_left
      · (intro w hSw; (try dsimp only at hSw); go_simp <;> with_reducible rfl)
      try simp only [Act.put, List.setIfInBounds_toArray, List.set_cons_zero, List.set_cons_succ]
      refine wpAnyH_take (i := 12) (oi := { dst := some 40, op := Op.load 35 (Operand.tmp 3), type := 35, pos := "law.go:77", after := #[{ on := 11, ground := Ground.guard }], guard := some (11, false) }) (v := ?_) rfl (by kernel_rfl) (by kernel_rfl) (by kernel_rfl) (fun _ _ _ h => h) (Or.inl ⟨by rfl, ?_⟩) (by assumption) ?_
      rotate_left
      · (intro w hSw; (try dsimp only at hSw); go_simp <;> with_reducible rfl)
      try simp only [Act.put, List.setIfInBounds_toArray, List.set_cons_zero, List.set_cons_succ]
      refine wpAnyH_take (i := 13) (oi := { dst := some 41, op := Op.load 35 (Operand.tmp 4), type := 35, pos := "law.go:77", after := #[{ on := 11, ground := Ground.guard }], guard := some (11, false) }) (v := ?_) rfl (by kernel_rfl) (by kernel_rfl) (by kernel_rfl) (fun _ _ _ h => h) (Or.inl ⟨by rfl, ?_⟩) (by assumption) ?_
      rotate_left
      · (intro w hSw; (try dsimp only at hSw); go_simp <;> with_reducible rfl)
      try simp only [Act.put, List.setIfInBounds_toArray, List.set_cons_zero, List.set_cons_succ]
      refine wpAnyH_ready (rs := [14]) (by kernel_rfl) (by simp) ?_
      refine AllReadyH.cons (o := { dst := some 42, op := Op.call { callee := Callee.value (Operand.func 16), args := #[Operand.tmp 40, Operand.tmp 41], argTypes := #[35, 35] }, type := 4, pos := "law.go:77", after := #[{ on := 12, ground := Ground.data }, { on := 13, ground := Ground.data }, { on := 11, ground := Ground.chain }, { on := 11, ground := Ground.guard }], guard := some (11, false) }) rfl (fun K hK => ?_) AllReadyH.nil
      go_simp
      go_at_call 16
      refine (HAB.out _).mono ?_
      rintro e wX ⟨rfl, oX⟩
      have oc := Only.trans oc oX
      obtain ⟨q0, q1, q2, q3, q4, q5, q6, q7, q8, q9, q10, q11, q12, q13, q14, q15⟩ := HOd.out.only oc
      go_wp2_with fail
      refine hK.out _ _ ?_ (fun hHeld => ?_)
      · go_keep
      clear hK K
      try simp only [Act.put, List.setIfInBounds_toArray, List.set_cons_zero, List.set_cons_succ]
      refine wpAnyH_take (i := 15) (oi := { dst := some 43, op := Op.move (Operand.tmp 42), type := 4, pos := "law.go:77", after := #[{ on := 14, ground := Ground.data }, { on := 14, ground := Ground.chain }, { on := 11, ground := Ground.guard }], guard := some (11, false) }) (v := ?_) rfl (by kernel_rfl) (by kernel_rfl) (by kernel_rfl) (fun _ _ _ h => h) (Or.inl ⟨by rfl, ?_⟩) (by assumption) ?_
      rotate_left
      · (intro w hSw; (try dsimp only at hSw); go_simp <;> with_reducible rfl)
      try simp only [Act.put, List.setIfInBounds_toArray, List.set_cons_zero, List.set_cons_succ]
      refine wpAnyH_take (i := 16) (oi := { dst := some 44, op := Op.load 35 (Operand.tmp 4), type := 35, pos := "law.go:77", after := #[{ on := 15, ground := Ground.guard }], guard := some (15, true) }) (v := undef) rfl (by kernel_rfl) (by kernel_rfl) (by kernel_rfl) (fun _ _ _ h => h) (Or.inr ⟨by rfl, rfl⟩) (by assumption) ?_
      try simp only [Act.put, List.setIfInBounds_toArray, List.set_cons_zero, List.set_cons_succ]
      refine wpAnyH_take (i := 17) (oi := { dst := some 45, op := Op.load 35 (Operand.tmp 3), type := 35, pos := "law.go:77", after := #[{ on := 15, ground := Ground.guard }], guard := some (15, true) }) (v := undef) rfl (by kernel_rfl) (by kernel_rfl) (by kernel_rfl) (fun _ _ _ h => h) (Or.inr ⟨by rfl, rfl⟩) (by assumption) ?_
      try simp only [Act.put, List.setIfInBounds_toArray, List.set_cons_zero, List.set_cons_succ]
      refine wpAnyH_take (i := 18) (oi := { dst := some 46, op := Op.call { callee := Callee.value (Operand.func 16), args := #[Operand.tmp 44, Operand.tmp 45], argTypes := #[35, 35] }, type := 4, pos := "law.go:77", after := #[{ on := 16, ground := Ground.data }, { on := 17, ground := Ground.data }, { on := 15, ground := Ground.chain }, { on := 15, ground := Ground.guard }], guard := some (15, true) }) (v := undef) rfl (by kernel_rfl) (by kernel_rfl) (by kernel_rfl) (fun _ _ _ h => h) (Or.inr ⟨by rfl, rfl⟩) (by assumption) ?_
      try simp only [Act.put, List.setIfInBounds_toArray, List.set_cons_zero, List.set_cons_succ]
      refine wpAnyH_take (i := 19) (oi := { dst := some 47, op := Op.pick (Operand.tmp 43) (Operand.tmp 46) (Operand.const (Value.bool false)), type := 4, pos := "law.go:77", after := #[{ on := 15, ground := Ground.data }, { on := 18, ground := Ground.data }, { on := 11, ground := Ground.guard }], guard := some (11, false) }) (v := ?_) rfl (by kernel_rfl) (by kernel_rfl) (by kernel_rfl) (fun _ _ _ h => h) (Or.inl ⟨by rfl, ?_⟩) (by assumption) ?_
      rotate_left
      · (intro w hSw; (try dsimp only at hSw); go_simp <;> with_reducible rfl)
      try simp only [Act.put, List.setIfInBounds_toArray, List.set_cons_zero, List.set_cons_succ]
      refine wpAnyH_take (i := 20) (oi := { dst := some 48, op := Op.pick (Operand.tmp 39) (Operand.const (Value.bool true)) (Operand.tmp 47), type := 4, pos := "law.go:77", after := #[{ on := 11, ground := Ground.data }, { on := 19, ground := Ground.data }], guard := none }) (v := ?_) rfl (by kernel_rfl) (by kernel_rfl) (by kernel_rfl) (fun _ _ _ h => h) (Or.inl ⟨by rfl, ?_⟩) (by assumption) ?_
      rotate_left
      · (intro w hSw; (try dsimp only at hSw); go_simp <;> with_reducible rfl)
      try simp only [Act.put, List.setIfInBounds_toArray, List.set_cons_zero, List.set_cons_succ]
      refine wpAnyH_take (i := 21) (oi := { dst := some 49, op := Op.move (Operand.tmp 48), type := 4, pos := "law.go:77", after := #[{ on := 20, ground := Ground.data }, { on := 18, ground := Ground.chain }], guard := none }) (v := ?_) rfl (by kernel_rfl) (by kernel_rfl) (by kernel_rfl) (fun _ _ _ h => h) (Or.inl ⟨by rfl, ?_⟩) (by assumption) ?_
      rotate_left
      · (intro w hSw; (try dsimp only at hSw); go_simp <;> with_reducible rfl)
      try simp only [Act.put, List.setIfInBounds_toArray, List.set_cons_zero, List.set_cons_succ]
      refine wpAnyH_take (i := 22) (oi := { dst := some 50, op := Op.load 35 (Operand.tmp 3), type := 35, pos := "law.go:77", after := #[{ on := 21, ground := Ground.guard }], guard := some (21, false) }) (v := ?_) rfl (by kernel_rfl) (by kernel_rfl) (by kernel_rfl) (fun _ _ _ h => h) (Or.inl ⟨by rfl, ?_⟩) (by assumption) ?_
      rotate_left
      · (intro w hSw; (try dsimp only at hSw); go_simp <;> with_reducible rfl)
      try simp only [Act.put, List.setIfInBounds_toArray, List.set_cons_zero, List.set_cons_succ]
      refine wpAnyH_take (i := 23) (oi := { dst := some 51, op := Op.load 35 (Operand.tmp 3), type := 35, pos := "law.go:77", after := #[{ on := 21, ground := Ground.guard }], guard := some (21, false) }) (v := ?_) rfl (by kernel_rfl) (by kernel_rfl) (by kernel_rfl) (fun _ _ _ h => h) (Or.inl ⟨by rfl, ?_⟩) (by assumption) ?_
      rotate_left
      · (intro w hSw; (try dsimp only at hSw); go_simp <;> with_reducible rfl)
      try simp only [Act.put, List.setIfInBounds_toArray, List.set_cons_zero, List.set_cons_succ]
      refine wpAnyH_ready (rs := [24]) (by kernel_rfl) (by simp) ?_
      refine AllReadyH.cons (o := { dst := some 52, op := Op.call { callee := Callee.value (Operand.func 16), args := #[Operand.tmp 50, Operand.tmp 51], argTypes := #[35, 35] }, type := 4, pos := "law.go:77", after := #[{ on := 22, ground := Ground.data }, { on := 23, ground := Ground.data }, { on := 21, ground := Ground.chain }, { on := 21, ground := Ground.guard }], guard := some (21, false) }) rfl (fun K hK => ?_) AllReadyH.nil
      go_simp
      go_at_call 16
      refine (HAA.out _).mono ?_
      rintro e wX ⟨rfl, oX⟩
      have oc := Only.trans oc oX
      obtain ⟨q0, q1, q2, q3, q4, q5, q6, q7, q8, q9, q10, q11, q12, q13, q14, q15⟩ := HOd.out.only oc
      go_wp2_with fail
      refine hK.out _ _ ?_ (fun hHeld => ?_)
      · go_keep
      clear hK K
      try simp only [Act.put, List.setIfInBounds_toArray, List.set_cons_zero, List.set_cons_succ]
      refine wpAnyH_take (i := 25) (oi := { dst := some 53, op := Op.pick (Operand.tmp 49) (Operand.const (Value.bool true)) (Operand.tmp 52), type := 4, pos := "law.go:77", after := #[{ on := 21, ground := Ground.data }, { on := 24, ground := Ground.data }], guard := none }) (v := ?_) rfl (by kernel_rfl) (by kernel_rfl) (by kernel_rfl) (fun _ _ _ h => h) (Or.inl ⟨by rfl, ?_⟩) (by assumption) ?_
      rotate_left
      · (intro w hSw; (try dsimp only at hSw); go_simp <;> with_reducible rfl)
      try simp only [Act.put, List.setIfInBounds_toArray, List.set_cons_zero, List.set_cons_succ]
      refine wpAnyH_done (by kernel_rfl) ?_ _
      all_goals
        go_wp2_with fail
        refine (HAB.out _).mono ?_
        rintro e w5 ⟨rfl, o5⟩
        have oc5 := Only.trans oc o5
        go_wp2_with fail
        go_ret
        exact ⟨rfl, oo.trans oc5⟩
  · have hck := three_check x y z w1
    have hrf := three_ref x y z
    rw [hc] at hck
    have hgd := fun (a : Option Addr) (c : Nat) (w' : World) (h : CdsAt w' a [x, y, z]) => good_any a c [x, y, z] w' (by simp) h
    simp only [hc, show decide ((22 : Int) = 0) = false from rfl, List.length_cons, List.length_nil] at hgd
    have HRf := Lib.hid hrf
    have HGd := Lib.hid hgd
    clear hc hrf hgd
    go_wp2_with fail
    refine hck.mono ?_
    rintro e w2 ⟨rfl, o2⟩
    obtain ⟨K0, K1, K2⟩ := HK.out
    obtain ⟨x0, x1, x2, x3⟩ := four (o2.keep K0 (fun h => h))
    obtain ⟨y0, y1, y2, y3⟩ := four (o2.keep K1 (fun h => h))
    obtain ⟨z0, z1, z2, z3⟩ := four (o2.keep K2 (fun h => h))
    clear hck K0 K1 K2
    go_wp2_with fail
    refine (HRf.out w2).mono ?_
    rintro e w3 ⟨g, c, rfl, hA, o3⟩
    have HA := Lib.hid hA
    clear hA
    go_wp2_with fail
    refine (HGd.out _ c w3 HA.out).mono ?_
    rintro e w4 ⟨rfl, o4⟩
    go_wp2_with fail
    go_ret
    exact ⟨rfl, ((o01.trans o2).trans o3).trans o4⟩
end Go.Proofs.Ytojhleijpcghoaa
