/-
  The walk of PickBest: it returns true. Conditions: the slice's cells.
-/
import Derived.Test.YtojhleijpcghoaaUnt
import Derived.ArgAppend
namespace Go.Proofs.Ytojhleijpcghoaa
open Go.RowKit
set_option linter.unusedVariables false

theorem src_zero (w : World) : Src (w.alloc (.cells #[.int .i64 0, .int .i64 0, .int .i64 0, .int .i64 0] 35)) (some ⟨w.heap.size, 0, none⟩) 1 1 (flatC [Cd.zero]) :=
  .inr ⟨_, rfl, rfl, World.news_of_block (cs := #[.int .i64 0, .int .i64 0, .int .i64 0, .int .i64 0]) (t := 35) (fr := (0, 0)) (heap_alloc_new w _)⟩

theorem holds_of {w : World} {g : Nat} {l : List Cd} (h : CdsAt w (some ⟨g, 0, none⟩) l) : ∀ b : Addr, some (⟨g, 0, none⟩ : Addr) = some b → ∀ j u, (flatC l)[j]? = some u → w.cell? (b.add j) = some u := by
  intro b e j u hu
  injection e with e
  subst e
  rcases src_of_cds (c := 0) h with ⟨e, _⟩ | ⟨ad, e, _, hc⟩
  · simp at e
  · injection e with e
    subst e
    exact hc j u hu
theorem flatC_set0 (l : List Cd) (v : Int) : ∀ i, i < l.length → (flatC l).set (i * 4) (.int .i64 v) = flatC (l.set i ⟨v, (l.getD i Cd.zero).live, (l.getD i Cd.zero).cap, (l.getD i Cd.zero).age⟩) := by
  induction l with
  | nil => intro i h; simp at h
  | cons s l ih =>
    intro i h
    cases i with
    | zero => simp [flatC]
    | succ i =>
      have := ih i (by simpa using h)
      rw [show (i + 1) * 4 = i * 4 + 4 from by omega]
      simpa [flatC] using this
theorem seg_set {cur : Array Value} {n i : Nat} {l : List Cd} {v : Int} (h : cur.toList.take (n * 4) = flatC l) (hl : l.length = n) (hi : i < n) :
    (cur.setIfInBounds (i * 4) (.int .i64 v)).toList.take (n * 4) = flatC (l.set i ⟨v, (l.getD i Cd.zero).live, (l.getD i Cd.zero).cap, (l.getD i Cd.zero).age⟩) := by
  rw [← flatC_set0 l v i (by omega), ← h]
  simp only [Array.toList_setIfInBounds, List.take_set]

set_option maxHeartbeats 2000000 in
theorem pickbest_walk (a : Option Addr) (len cap : Nat) (k : Int) (w : World) (l : List Cd) (h : InAt w a len cap l) :
    Calls Try.prog 3 #[.slice a len cap, .int .i64 k] w fun e w' => e = .returned (.bool true) ∧ Only (fun _ => False) w w' := by
  obtain ⟨hlen, hl, hcap, hlc, hC, hS⟩ := h
  subst hlen
  unfold maxLen at hl
  by_cases hbig : 600 < l.length
  · clear hC hS
    go_enter Try.func3, Try.ntmps3
    go_wp2_with fail
    refine (awake_any _).mono ?_
    rintro e w1 ⟨rfl, o1⟩
    go_wp2_with fail
    refine (awake_any _).mono ?_
    rintro e w2 ⟨rfl, o2⟩
    go_wp2_with fail
    go_ret
    exact ⟨rfl, o1.trans o2⟩
  · have h600 : l.length ≤ 600 := by omega
    have hlr := len_rbest (k := k) h600
    have HC := Lib.hid hC
    have HS := Lib.hid hS
    have hrb := fun (a2 : Option Addr) (c2 : Nat) (w' : World) (h : CdsAt w' a2 l) => rbest_any a2 c2 l k w' (by omega) h
    have hb := fun (a2 : Option Addr) (c2 : Nat) (w' : World) (h : CdsAt w' a2 l) => best_any a2 c2 l k w' (by unfold maxLen; omega) h
    have HU := Lib.hid (bestC_eq l k)
    rw [HU.out] at hb
    generalize rbestC l k = res at *
    obtain ⟨rl, rc⟩ := res
    have HRb := Lib.hid hrb
    have HB := Lib.hid hb
    obtain ⟨i0, hi0, hz0, hz1, hz2⟩ := info_parts info35
    have HI := Lib.hid (And.intro hi0 (And.intro hz0 (And.intro hz1 hz2)))
    clear hC hS hrb hb hbig HU hi0 hz0 hz1 hz2
    simp only at hlr
    go_enter Try.func3, Try.ntmps3
    go_wp2_with fail
    refine (awake_any _).mono ?_
    rintro e w1 ⟨rfl, o1⟩
    have HC1 := Lib.hid (HS.out.onlyF o1)
    go_wp2_with (first
      | (refine wpList_make_own _ rfl (.const (.int .i64 0)) (.tmp 21) 22 rfl w1.heap.size 35 i0 _ 4 Try.underlying22 HI.out.1 HI.out.2.1 HI.out.2.2.1 .i64 .i64 ((l.length : Int) + 9) (l.length + 9) rfl rfl (by omega) (by rw [HI.out.2.2.2]; omega) (by unfold maxLen; omega) (Nat.le_refl _) ?_; intro w2 hown2 hg2; have o2 : Only (fun _ => False) w1 w2 := (Only.refl _ w1).grown hg2 (fun k hk => by simp at hk); have hsrc := Lib.hid (HC1.out.onlyF o2); have hsz2 := o2.size)
      | (at_builtin; refine wpList_append_src rfl (.tmp 22) (.tmp 23) 22 35 rfl i0 _ Try.underlying22 HI.out.1 HI.out.2.1 HI.out.2.2.1 HI.out.2.2.2 rfl w1.heap.size _ 0 [] rfl hown2 a l.length cap (flatC l) rfl hsrc.out (flatC_one _) (by unfold maxLen; omega) (by omega) hsz2 l.length (by omega) (flatC l) rfl ?_; intro A3 c3 w3 hown3 hg3; have o3 := o2.grown hg3 (fun k hk => (hown2.lt k hk).1)))
    have hin := own_cds2 hown3 rfl
    have HIn := Lib.hid hin
    have o13 := o1.trans o3
    clear hown2 hg2 hown3 hg3 hin hsrc
    refine (HB.out A3 c3 w3 HIn.out).mono ?_
    rintro e w4 ⟨v, rfl, hv, o4⟩
    have HV := Lib.hid hv
    obtain ⟨A4, c4, rfl, h4, -⟩ := hv.cds
    have H4 := Lib.hid h4
    clear hv h4
    go_wp2_with fail
    refine (ref_any a cap l w4 (by omega) (HC.out.onlyF (o13.trans o4))).mono ?_
    rintro e w5 ⟨v5, rfl, hO, o5⟩
    obtain ⟨A5, c5, rfl⟩ := own_slice hO
    have h5 := own_cds2 hO rfl
    clear hO
    go_wp2_with fail
    refine (HRb.out _ _ _ h5).mono ?_
    rintro e w6 ⟨a6, c6, rfl, h6, o6⟩
    have H6 := Lib.hid h6
    clear h5 h6
    have hS : Calls Try.prog 13 #[.slice A4 rl.length c4, .slice a6 rl.length c6] w6 fun e w' => e = .returned (.bool true) ∧ Only (fun _ => False) w6 w' := by
      have := same_any A4 a6 c4 c6 rl rl w6 (by omega) (by omega) (H4.out.onlyF (o5.trans o6)) H6.out
      simp only [decide_true] at this
      exact this
    have o46 := o5.trans o6
    clear o5 o6
    simp only
    go_wp2_with fail
    refine hS.mono ?_
    rintro e w7 ⟨rfl, o7⟩
    clear hS
    go_wp2_with fail
    refine (check_any A3 c3 l w7 (by unfold maxLen; omega) (HIn.out.onlyF (o4.trans (o46.trans o7)))).mono ?_
    rintro e w8 ⟨rfl, o8⟩
    have o48 := (o46.trans o7).trans o8
    clear o46 o7 o8
    go_wp2_with fail
    refine (ref_any a cap l w8 (by omega) (HC.out.onlyF (o13.trans (o4.trans o48)))).mono ?_
    rintro e w9 ⟨v9, rfl, hO, o9⟩
    obtain ⟨A9, c9, rfl⟩ := own_slice hO
    have h9 := own_cds2 hO rfl
    clear hO
    go_wp2_with fail
    refine (good_any A9 c9 l w9 (by omega) h9).mono ?_
    rintro e w10 ⟨rfl, o10⟩
    have o410 : Only (fun _ => False) w4 w10 := (o48.trans o9).trans o10
    clear h9 o48 o9 o10
    rcases chk_two l with hc | hc
    all_goals
      rw [hc]
      clear hc
      go_wp2_with fail
      have HV10 := Lib.hid (HV.out.onlyF o410)
      rcases HV10.out with ⟨e1, e2⟩ | ⟨g, cur, e1, hgB, hg, hcs, hx⟩
      · injection e1 with e1 e3 e4
        subst e1 e2 e4
        go_loop [58] (fun iv => iv = .int .i64 0) (fun _ => 0)
        case atStart => rfl
        case round =>
          obtain rfl := hrel
          go_wp2_with (at_builtin; refine wpList_append_src rfl (.tmp 70) (.tmp 72) 22 35 rfl i0 _ Try.underlying22 HI.out.1 HI.out.2.1 HI.out.2.2.1 HI.out.2.2.2 rfl w10.heap.size (.slice none 0 0) 0 [] rfl (World.ownsRow_nil _ _ _ _) (some ⟨w10.heap.size, 0, none⟩) 1 1 (flatC [Cd.zero]) rfl (src_zero w10) (flatC_one _) (by unfold maxLen; omega) (by omega) (by simp) 1 (by omega) (flatC [Cd.zero]) rfl ?_; intro A11 c11 w11 hown11 hg11; have o11 := ((Only.refl (fun _ => False) w10).alloc (.cells #[.int .i64 0, .int .i64 0, .int .i64 0, .int .i64 0] 35)).grown hg11 (fun k hk => by simp [Value.ownBlock] at hk))
          refine (ref_any a cap l w11 (by omega) (HC.out.onlyF (o13.trans (o4.trans (o410.trans o11)))) ).mono ?_
          rintro e w12 ⟨v12, rfl, hO, o12⟩
          obtain ⟨A12, c12, rfl⟩ := own_slice hO
          have h12 := own_cds2 hO rfl
          clear hO
          have hSS : Calls Try.prog 13 #[.slice A3 l.length c3, .slice A12 l.length c12] w12 fun e w' => e = .returned (.bool true) ∧ Only (fun _ => False) w12 w' := by
            have := same_any A3 A12 c3 c12 l l w12 (by omega) (by omega) (HIn.out.onlyF (o4.trans ((o410.trans o11).trans o12))) h12
            simp only [decide_true] at this
            exact this
          clear h12
          go_wp2_with fail
          refine hSS.mono ?_
          rintro e w13 ⟨rfl, o14⟩
          clear hSS
          go_wp2_with fail
          go_ret
          exact ⟨rfl, o13.trans (o4.trans (((o410.trans o11).trans o12).trans o14))⟩
      · injection e1 with e1 e3 e4
        subst e1 e4
        clear e3
        have h0 := o410.size
        have hsz4 := o4.size
        have hsz13 := o13.size
        have hgC : w4.heap.size ≤ g ∨ True := .inr trivial
        clear hgC
        go_loopw [58] (fun iv wr => ∃ (i : Nat) (cu : Array Value) (l' : List Cd), i ≤ rl.length ∧ iv = .int .i64 i ∧ wr.heap[g]? = some (.cells cu 35 (0, 0)) ∧ l'.length = rl.length ∧ Hid (cu.toList.take (rl.length * 4) = flatC l') ∧ Only (fun x => x = g) w10 wr) (fun iv _ => rl.length - (intOf iv).toNat)
        case atStart => exact ⟨0, cur, rl, Nat.zero_le _, rfl, hg, rfl, hx, Only.refl _ _⟩
        case round =>
          obtain ⟨i, cu, l', hi, rfl, hh, hll, hxx, o⟩ := hrel
          by_cases hlt : i < rl.length
          · obtain ⟨z0, z1, z2, z3⟩ := cds_at (k := i) (l := l') (cds_block hh (by rw [hll]; exact hxx.out)) (by omega) rfl
            have hfz : wr.frozen? ⟨g, i * 4, none⟩ = false := by simp [World.frozen?, hh]
            have hlt1 : (i : Int) < (rl.length : Int) := by omega
            rw [Nat.zero_add] at z0
            have HH := Lib.hid hh
            have HLL := Lib.hid hll
            clear z1 z2 z3 hh hll hg hx
            go_wp2_with fail
            go_roundw
            case rel => exact ⟨i + 1, _, _, by omega, by go_num, heap_setCell_same _ _ _ _ _ _ _ HH.out, by rw [List.length_set]; exact HLL.out, seg_set hxx.out HLL.out hlt, o.setCell (q := ⟨g, i * 4, none⟩) (.inl rfl) _⟩
            case measure => simp [intOf]; omega
          · have hgs : g < w10.heap.size := (Array.getElem?_eq_some_iff.1 hg).1
            have ho3 : Only (fun _ => False) w3 wr := (o4.trans o410).over o (fun x hx => by subst hx; exact hgB)
            have hC2 := (cds_block hh (by rw [hll]; exact hxx.out)).onlyF ((Only.refl (fun _ => False) wr).alloc (.cells #[.int .i64 0, .int .i64 0, .int .i64 0, .int .i64 0] 35))
            have HHolds := Lib.hid (holds_of hC2)
            have hfl : (flatC l').length = rl.length * 4 := by rw [flatC_length, hll]
            have HFl := Lib.hid hfl
            clear hg hx hh hll hC2 hfl
            go_wp2_with (at_builtin; refine wpList_append_grows _ rfl (.tmp 70) (.tmp 72) 22 rfl 35 i0 _ 4 32 Try.underlying22 HI.out.1 HI.out.2.1 HI.out.2.2.1 HI.out.2.2.2 rfl (by omega) (some ⟨g, 0, none⟩) rl.length rl.length (flatC l') rfl (fun e => by simp at e) HFl.out HHolds.out ⟨wr.heap.size, 0, none⟩ 1 1 (flatC [Cd.zero]) rfl rfl (World.news_of_block (cs := #[.int .i64 0, .int .i64 0, .int .i64 0, .int .i64 0]) (t := 35) (fr := (0, 0)) (heap_alloc_new wr _)) (flatC_one _) (by omega) (by unfold maxLen; omega) (by omega) ?_; intro v11 w11 hown11 hg11; obtain ⟨A11, c11, rfl⟩ := own_slice hown11; have o11 := ((Only.refl (fun _ => False) wr).alloc (.cells #[.int .i64 0, .int .i64 0, .int .i64 0, .int .i64 0] 35)).grown hg11 (fun k hk => by simp at hk))
            have oo := ho3.trans o11
            clear hown11 hg11
            refine (ref_any a cap l w11 (by omega) (HC.out.onlyF (o13.trans oo))).mono ?_
            rintro e w12 ⟨v12, rfl, hO, o12⟩
            obtain ⟨A12, c12, rfl⟩ := own_slice hO
            have h12 := own_cds2 hO rfl
            clear hO
            have hSS : Calls Try.prog 13 #[.slice A3 l.length c3, .slice A12 l.length c12] w12 fun e w' => e = .returned (.bool true) ∧ Only (fun _ => False) w12 w' := by
              have := same_any A3 A12 c3 c12 l l w12 (by omega) (by omega) (HIn.out.onlyF (oo.trans o12)) h12
              simp only [decide_true] at this
              exact this
            clear h12
            go_wp2_with fail
            refine hSS.mono ?_
            rintro e w13 ⟨rfl, o14⟩
            clear hSS
            go_wp2_with fail
            go_ret
            exact ⟨rfl, o13.trans ((oo.trans o12).trans o14)⟩
end Go.Proofs.Ytojhleijpcghoaa
