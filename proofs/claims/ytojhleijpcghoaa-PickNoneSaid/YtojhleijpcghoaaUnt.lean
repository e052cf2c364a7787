/-
  The walk of PickUntil: it returns true. Conditions: the slice's cells.
-/
import Derived.Test.YtojhleijpcghoaaArg
namespace Go.Proofs.Ytojhleijpcghoaa
open Go.RowKit
set_option linter.unusedVariables false

theorem Src.onlyF {w w' : World} {a : Option Addr} {m c : Nat} {l : List Value} (h : Src w a m c l) (o : Only (fun _ => False) w w') : Src w' a m c l := by
  rcases h with h | ⟨ad, ha, hl, hc⟩
  · exact .inl h
  · exact .inr ⟨ad, ha, hl, fun j u hu => (World.cell?_of_block (o.block _ (World.block_lt_of_cell? _ _ (hc j u hu)) (fun x => x))).trans (hc j u hu)⟩
theorem own_cds2 {w : World} {base n c : Nat} {e : TypeId} {A : Option Addr} {l : List Cd} (h : w.ownsRow base e 4 (.slice A n c) n (flatC l)) (hn : n = l.length) : CdsAt w A l := by
  obtain ⟨a, c', e, h1, _⟩ := cds_row h hn
  injection e with e1 e2 e3
  rw [e1]
  exact h1
theorem len_rbest {l : List Cd} {k : Int} (h : l.length ≤ 600) : (rbestC l k).1.length ≤ 600 := by
  unfold rbestC
  split
  · simp
  · simp only [List.length_take, len_order]; omega
theorem len_runtil {l : List Cd} {k : Int} (h : l.length ≤ 600) : (runtilC l k).1.length ≤ 600 := by
  unfold runtilC
  split
  · simp
  · simp only [List.length_take, len_order]; omega

set_option maxHeartbeats 2000000 in
theorem until_walk (a : Option Addr) (len cap : Nat) (k : Int) (w : World) (l : List Cd) (hk : k ≤ 9223372036854775807) (h : InAt w a len cap l) :
    Calls Try.prog 6 #[.slice a len cap, .int .i64 k] w fun e w' => e = .returned (.bool true) ∧ Only (fun _ => False) w w' := by
  obtain ⟨hlen, hl, hcap, hlc, hC, hS⟩ := h
  subst hlen
  unfold maxLen at hl
  by_cases hbig : 600 < l.length
  · clear hC hS
    go_enter Try.func6, Try.ntmps6
    go_wp2_with fail
    refine (awake_any _).mono ?_
    rintro e w1 ⟨rfl, o1⟩
    go_wp2_with fail
    refine (awake_any _).mono ?_
    rintro e w2 ⟨rfl, o2⟩
    go_wp2_with fail
    go_ret
    exact ⟨rfl, o1.trans o2⟩
  · have h600 : l.length ≤ 600 := by omega
    have hlr := len_runtil (k := k) h600
    have HU := Lib.hid (untilC_eq l k)
    have HC := Lib.hid hC
    have HS := Lib.hid hS
    have hrun := fun (a2 : Option Addr) (c2 : Nat) (w' : World) (h : CdsAt w' a2 l) => runtil_any a2 c2 l k w' (by omega) hk h
    have hunt := fun (a2 : Option Addr) (c2 : Nat) (w' : World) (h : CdsAt w' a2 l) => until_any a2 c2 l k w' (by unfold maxLen; omega) h
    rw [HU.out] at hunt
    generalize runtilC l k = res at *
    obtain ⟨rl, rc⟩ := res
    have HRun := Lib.hid hrun
    have HUnt := Lib.hid hunt
    obtain ⟨i0, hi0, hz0, hz1, hz2⟩ := info_parts info35
    have HI := Lib.hid (And.intro hi0 (And.intro hz0 (And.intro hz1 hz2)))
    clear hC hS hrun hunt hbig HU hi0 hz0 hz1 hz2
    simp only at hlr
    go_enter Try.func6, Try.ntmps6
    go_wp2_with fail
    refine (awake_any _).mono ?_
    rintro e w1 ⟨rfl, o1⟩
    have hwc := World.ownsRow_made (e := 35) (size := 4) (base := w1.heap.size) w1 #[] 0 (Nat.le_refl _) (Nat.zero_le _) rfl
    have HM := Lib.hid hwc
    have hx1 := fun w2 (hg2 : (w1.alloc (.cells #[] 35)).grownBy w2 (some w1.heap.size)) => (((Only.refl (fun _ => False) w1).alloc (.cells #[] 35)).grown hg2 (fun i hi => by injection hi with hi; omega))
    have HX1 := Lib.hid hx1
    have hsrc : Src (w1.alloc (.cells #[] 35)) a l.length cap (flatC l) := HS.out.onlyF (o1.alloc _)
    have HSrc := Lib.hid hsrc
    clear hwc hx1 hsrc
    go_wp2_with (at_builtin; refine wpList_append_src rfl (.tmp 18) (.tmp 19) 22 35 rfl i0 _ Try.underlying22 HI.out.1 HI.out.2.1 HI.out.2.2.1 HI.out.2.2.2 rfl w1.heap.size _ 0 [] rfl HM.out a l.length cap (flatC l) rfl HSrc.out (flatC_one _) (by unfold maxLen; omega) (by omega) (by simp) l.length (by omega) (flatC l) rfl ?_; intro A1 c1 w2 hown2 hg2; have o2 := HX1.out w2 hg2)
    refine (HUnt.out _ _ _ (own_cds2 hown2 rfl)).mono ?_
    rintro e w3 ⟨v, rfl, hv, o3⟩
    obtain ⟨a3, c3, rfl, h3, -⟩ := hv.cds
    have o13 := (o1.trans o2).trans o3
    have H3 := Lib.hid h3
    clear hown2 hg2 hv h3
    go_wp2_with fail
    refine (ref_any a cap l w3 (by omega) (HC.out.onlyF o13)).mono ?_
    rintro e w4 ⟨v4, rfl, hO, o4⟩
    obtain ⟨A4, c4, rfl⟩ := own_slice hO
    have h4 := own_cds2 hO rfl
    clear hO
    go_wp2_with fail
    refine (HRun.out _ _ _ h4).mono ?_
    rintro e w5 ⟨a5, c5, rfl, h5, o5⟩
    have H5 := Lib.hid h5
    clear h4 h5
    have hS : Calls Try.prog 13 #[.slice a3 rl.length c3, .slice a5 rl.length c5] w5 fun e w' => e = .returned (.bool true) ∧ Only (fun _ => False) w5 w' := by
      have := same_any a3 a5 c3 c5 rl rl w5 (by omega) (by omega) (H3.out.onlyF (o4.trans o5)) H5.out
      simp only [decide_true] at this
      exact this
    simp only
    go_wp2_with fail
    refine hS.mono ?_
    rintro e w6 ⟨rfl, o6⟩
    clear hS
    go_wp2_with fail
    go_ret
    exact ⟨rfl, ((o13.trans o4).trans o5).trans o6⟩
end Go.Proofs.Ytojhleijpcghoaa
