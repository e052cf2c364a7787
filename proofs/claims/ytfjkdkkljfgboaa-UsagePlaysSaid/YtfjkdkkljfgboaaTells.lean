/-
  The walk of the law's helper Tells: all that the program's table tells is the document's. Conditions: the tables' facts.
-/
import Derived.Test.YtfjkdkkljfgboaaPlayW
import Derived.Deep.RegionHeld3
namespace Go.Proofs.Ytfjkdkkljfgboaa
open Go.RowKit
set_option linter.unusedVariables false

section
variable {w : World} {p c r : Nat} {size hand : Int} {L : List Inf}

set_option maxRecDepth 100000 in
set_option maxHeartbeats 4000000 in
theorem Tells_any (cap : Nat) (H : Int) (ht : Tab w p c L size hand) (hr : RefAt w r L) (hI : Inv L size hand) :
    Calls Try.prog 21 #[.pointer (some ⟨p, 0, none⟩), .agg #[.slice (some ⟨r, 0, none⟩) L.length cap, .int .i64 size, .int .i64 H]] w fun e w' =>
      e = .returned (.bool true) ∧ Only (fun _ => False) w w' := by
  obtain ⟨W, hW⟩ : ∃ W, W = w.alloc (.cells #[.slice (some ⟨r, 0, none⟩) L.length cap, .int .i64 size, .int .i64 H] 52) := ⟨_, rfl⟩
  have t1 : Tab W p c L size hand := by rw [hW]; exact ht.alloc _
  have r1 : RefAt W r L := by rw [hW]; exact hr.alloc _
  have o1 : Only (fun _ => False) w W := by rw [hW]; exact (Only.refl _ _).alloc _
  have T : W.heap[w.heap.size]? = some (.cells #[.slice (some ⟨r, 0, none⟩) L.length cap, .int .i64 size, .int .i64 H] 52) := by
    rw [hW]; exact heap_alloc_new _ _
  have hlen := hI.len
  go_enter Try.func21, Try.ntmps21
  go_wp2_with fail
  rw [← hW]
  clear hW ht hr
  go_loopw [16] (fun i wr => ∃ k : Nat, k ≤ L.length ∧ i = .int .i64 k ∧ Only (fun _ => False) W wr) (fun i _ => L.length - (intOf i).toNat)
  case atStart => exact ⟨0, Nat.zero_le _, rfl, Only.refl _ _⟩
  case round =>
    obtain ⟨k, hk, rfl, o⟩ := hrel
    have tk := t1.onlyF o
    have rk := r1.onlyF o
    have Tk := o.keep T (fun h => h)
    by_cases hlt : k < L.length
    · have hG := get_ok k tk hlt
      go_wp2_with fail
      refine hG.mono ?_
      rintro e w4 ⟨rfl, o4⟩
      have r4 := (rk.onlyF o4).alloc (.cells #[.int .i64 (seg L k).live, .int .i64 (seg L k).state, .int .i64 (seg L k).age] 38)
      have T4 := ((Below.heap_alloc w4 (.cells #[.int .i64 (seg L k).live, .int .i64 (seg L k).state, .int .i64 (seg L k).age] 38) _ (Array.getElem?_eq_some_iff.1 (o4.keep Tk (fun h => h))).1)).trans (o4.keep Tk (fun h => h))
      have c0 := r4.live k hlt
      have c1 := r4.state k hlt
      have c2 := r4.age k hlt
      obtain ⟨p0, _, _, _, _, _⟩ := three T4
      have ok := (o.trans o4).alloc (.cells #[.int .i64 (seg L k).live, .int .i64 (seg L k).state, .int .i64 (seg L k).age] 38)
      clear hG r4 T4 o4
      go_wp2_with fail
      go_quiet (fail)
      go_wp2_with fail
      go_roundw
      case rel => exact ⟨k + 1, by omega, by go_num, ok.drewN _⟩
      case measure => simp [intOf]; omega
    · have hG := get_out (L.length : Int) tk (by omega)
      obtain ⟨p0, _, _, _, _, _⟩ := three Tk
      go_wp2_with fail
      refine hG.mono ?_
      rintro e w4 ⟨rfl, o4⟩
      clear hG p0
      have o5 := (o.trans o4).alloc (.cells #[.int .i64 0, .int .i64 0, .int .i64 0] 38)
      have hG := get_out (-1) (t1.onlyF o5) (by omega)
      go_wp2_with fail
      refine hG.mono ?_
      rintro e w6 ⟨rfl, o6⟩
      have o7 := (o5.trans o6).alloc (.cells #[.int .i64 0, .int .i64 0, .int .i64 0] 38)
      clear hG o o4 o5 o6 tk rk Tk
      go_wp2_with fail
      have ta := t1.onlyF o7
      have ra := r1.onlyF o7
      have Ta := o7.keep T (fun h => h)
      generalize w6.alloc (.cells #[.int .i64 0, .int .i64 0, .int .i64 0] 38) = wa at *
      clear t1 r1 T
      go_loopw [12] (fun i wx => ∃ j : Nat, j ≤ 5 ∧ i = .int .i64 ((j : Int) - 1) ∧ Only (fun _ => False) wa wx) (fun i _ => 5 - (intOf i + 1).toNat)
      case atStart => exact ⟨0, by omega, rfl, Only.refl _ _⟩
      case round =>
        obtain ⟨j, hj, rfl, oj⟩ := hrel
        obtain ⟨wx, rfl⟩ : ∃ wx : World, wx = wr := ⟨_, rfl⟩
        have tx := ta.onlyF oj
        have rx := ra.onlyF oj
        have Tx := oj.keep Ta (fun h => h)
        by_cases hlt : j < 5
        · obtain ⟨p0, p1, p2, _, _, _⟩ := three Tx
          have hj3 : (j : Int) - 1 ≤ 3 := by omega
          generalize hst : (j : Int) - 1 = st at *
          go_wp2_with fail
          have hC1 := count_any st tx.drew hlen
          have hC2 : ∀ w', Only (fun _ => False) wx.drew w' → Calls Try.prog 38 #[.agg #[.slice (some ⟨r, 0, none⟩) L.length cap, .int .i64 size, .int .i64 H], .int .i64 st] w' fun e w'' => e = .returned (.int .i64 (countL L st)) ∧ Only (fun _ => False) w' w'' :=
            fun w' o => rcount_any cap st size H (RefAt.onlyF (w := wx.drew) rx o) hlen
          have hC3 : ∀ w', Only (fun _ => False) wx.drew w' → w'.cell? ⟨w.heap.size, 0, none⟩ = some (.slice (some ⟨r, 0, none⟩) L.length cap) ∧ w'.cell? ⟨w.heap.size, 1, none⟩ = some (.int .i64 size) ∧ w'.cell? ⟨w.heap.size, 2, none⟩ = some (.int .i64 H) :=
            fun w' o => by
              obtain ⟨x0, x1, x2, _⟩ := three (o.keep (show wx.drew.heap[w.heap.size]? = _ from Tx) (fun h => h))
              exact ⟨x0, x1, x2⟩
          have HC1 := Lib.hid hC1
          have HC2 := Lib.hid hC2
          have HC3 := Lib.hid hC3
          clear hC1 hC2 hC3
          go_region_held3 (fun w' => w'.cell? ⟨w.heap.size, 0, none⟩ = some (.slice (some ⟨r, 0, none⟩) L.length cap) ∧ w'.cell? ⟨w.heap.size, 1, none⟩ = some (.int .i64 size) ∧ w'.cell? ⟨w.heap.size, 2, none⟩ = some (.int .i64 H)) (go_keep)
            (first | (go_at_call 12; refine HC1.out.mono ?_; rintro e w' ⟨rfl, o'⟩; obtain ⟨q0, q1, q2⟩ := HC3.out _ o') | (go_at_call 38; refine (HC2.out _ (by assumption)).mono ?_; rintro e w' ⟨rfl, o''⟩; obtain ⟨y0, y1, y2⟩ := HC3.out _ (Only.trans (by assumption) o'')))
          have oe : Only (fun _ => False) wa _ := oj.trans ((((Only.refl _ wx).drew).trans (by assumption)).trans (by assumption))
          clear HC1 HC2 HC3 p0 p1 p2
          subst hst
          go_wp2_with fail
          go_roundw
          case rel => exact ⟨j + 1, by omega, by go_num, oe⟩
          case measure => simp [intOf]; omega
        · obtain rfl : j = 5 := by omega
          obtain ⟨p0, p1, p2, _, _, _⟩ := three Tx
          have hC1 := total_any tx.drew hlen hI.live hI.size
          have hC2 : ∀ w', Only (fun _ => False) wx.drew w' → Calls Try.prog 39 #[.agg #[.slice (some ⟨r, 0, none⟩) L.length cap, .int .i64 size, .int .i64 H]] w' fun e w'' => e = .returned (.int .i64 (totalL L)) ∧ Only (fun _ => False) w' w'' :=
            fun w' o => rtotal_any cap size H (RefAt.onlyF (w := wx.drew) rx o) hlen hI.live hI.size
          have hC3 : ∀ w', Only (fun _ => False) wx.drew w' → w'.cell? ⟨w.heap.size, 0, none⟩ = some (.slice (some ⟨r, 0, none⟩) L.length cap) ∧ w'.cell? ⟨w.heap.size, 1, none⟩ = some (.int .i64 size) ∧ w'.cell? ⟨w.heap.size, 2, none⟩ = some (.int .i64 H) :=
            fun w' o => by
              obtain ⟨x0, x1, x2, _⟩ := three (o.keep (show wx.drew.heap[w.heap.size]? = _ from Tx) (fun h => h))
              exact ⟨x0, x1, x2⟩
          have HC1 := Lib.hid hC1
          have HC2 := Lib.hid hC2
          have HC3 := Lib.hid hC3
          clear hC1 hC2 hC3
          go_wp2_with fail
          go_region_held3 (fun w' => w'.cell? ⟨w.heap.size, 0, none⟩ = some (.slice (some ⟨r, 0, none⟩) L.length cap) ∧ w'.cell? ⟨w.heap.size, 1, none⟩ = some (.int .i64 size) ∧ w'.cell? ⟨w.heap.size, 2, none⟩ = some (.int .i64 H)) (go_keep)
            (first | (go_at_call 15; refine HC1.out.mono ?_; rintro e w' ⟨rfl, o'⟩; obtain ⟨q0, q1, q2⟩ := HC3.out _ o') | (go_at_call 39; refine (HC2.out _ (by assumption)).mono ?_; rintro e w' ⟨rfl, o''⟩; obtain ⟨y0, y1, y2⟩ := HC3.out _ (Only.trans (by assumption) o'')))
          have oe : Only (fun _ => False) wa _ := oj.trans ((((Only.refl _ wx).drew).trans (by assumption)).trans (by assumption))
          clear HC1 HC2 HC3 p0 p1 p2
          go_wp2_with fail
          go_ret
          exact ⟨rfl, o1.trans (o7.trans oe)⟩
end
end Go.Proofs.Ytfjkdkkljfgboaa
