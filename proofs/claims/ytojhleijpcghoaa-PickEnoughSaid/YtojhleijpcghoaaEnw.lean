/-
  The walk of PickEnough: it returns true. Conditions: the slice's cells.
-/
import Derived.Test.YtojhleijpcghoaaPbw
namespace Go.Proofs.Ytojhleijpcghoaa
open Go.RowKit
set_option linter.unusedVariables false

/-- The room that a list makes. -/
def freeS : List Cd → Int
  | [] => 0
  | x :: l => (x.cap - x.live) + freeS l
theorem until_lt (o : List Cd) : ∀ (i : Nat) (room : Int), i < untilN o room → freeS (o.take i) < room := by
  induction o with
  | nil => intro i room h; simp [untilN] at h
  | cons x o ih =>
    intro i room h
    unfold untilN at h
    split at h
    · rename_i hr
      cases i with
      | zero => exact hr
      | succ i =>
        have := ih i (room - (x.cap - x.live)) (by omega)
        rw [List.take_succ_cons]
        show (x.cap - x.live) + freeS (o.take i) < room
        omega
    · omega
theorem until_end (o : List Cd) : ∀ (room : Int), untilN o room = o.length ∨ room ≤ freeS (o.take (untilN o room)) := by
  induction o with
  | nil => intro room; exact .inl rfl
  | cons x o ih =>
    intro room
    unfold untilN
    split
    · rcases ih (room - (x.cap - x.live)) with h | h
      · exact .inl (by simp [h])
      · refine .inr ?_
        rw [List.take_succ_cons]
        show room ≤ (x.cap - x.live) + freeS (o.take _)
        omega
    · rename_i h
      refine .inr ?_
      show room ≤ 0
      omega
theorem until_pos {o : List Cd} {room : Int} (h : 0 < untilN o room) : 0 < room := by
  have := until_lt o 0 room h
  simpa [freeS] using this
theorem free_next (l : List Cd) : ∀ i, i < l.length → freeS (l.take (i + 1)) = freeS (l.take i) + ((l.getD i Cd.zero).cap - (l.getD i Cd.zero).live) := by
  induction l with
  | nil => intro i h; simp at h
  | cons x l ih =>
    intro i h
    cases i with
    | zero => simp [freeS]
    | succ i =>
      have := ih i (by simpa using h)
      rw [List.take_succ_cons, List.take_succ_cons]
      show (x.cap - x.live) + freeS _ = (x.cap - x.live) + freeS _ + _
      rw [this]
      simp
      omega
theorem free_bd {l : List Cd} (hg : ∀ x ∈ l, Gd x) : ∀ i, i ≤ l.length → 0 ≤ freeS (l.take i) ∧ freeS (l.take i) ≤ 64 * i := by
  intro i
  induction i with
  | zero => intro _; simp [freeS]
  | succ i ih =>
    intro h
    have := ih (by omega)
    have g := hg _ (getD_mem (l := l) (k := i) (by omega))
    rw [free_next l i (by omega)]
    have := g.l1; have := g.l2; have := g.c2
    omega

/-- What Until answers, said by its list. -/
theorem runtil_two (l : List Cd) (k : Int) : runtilC l k = ([], 22) ∨ (chkC l = 0 ∧ 0 ≤ k ∧ runtilC l k = ((orderF l).take (untilN (orderF l) k), 0)) := by
  unfold runtilC
  split
  · exact .inl rfl
  · rename_i h
    have hc : chkC l = 0 := by
      rcases chk_two l with h1 | h1
      · exact h1
      · exact absurd (.inl (by rw [h1]; decide)) h
    exact .inr ⟨hc, by omega, rfl⟩

set_option maxHeartbeats 2000000 in
theorem enough_walk (a : Option Addr) (len cap : Nat) (k : Int) (w : World) (l : List Cd) (hk : k ≤ 9223372036854775807) (h : InAt w a len cap l) :
    Calls Try.prog 7 #[.slice a len cap, .int .i64 k] w fun e w' => e = .returned (.bool true) ∧ Only (fun _ => False) w w' := by
  obtain ⟨hlen, hl, hcap, hlc, hC, hS⟩ := h
  subst hlen
  unfold maxLen at hl
  by_cases hbig : 100 < l.length
  · clear hC hS
    go_enter Try.func7, Try.ntmps7
    go_wp2_with fail
    refine (awake_any _).mono ?_
    rintro e w1 ⟨rfl, o1⟩
    go_wp2_with fail
    refine (awake_any _).mono ?_
    rintro e w2 ⟨rfl, o2⟩
    go_wp2_with fail
    go_ret
    exact ⟨rfl, o1.trans o2⟩
  · have h600 : l.length ≤ 100 := by omega
    have HC := Lib.hid hC
    have HS := Lib.hid hS
    have hunt := fun (a2 : Option Addr) (c2 : Nat) (w' : World) (h : CdsAt w' a2 l) => until_any a2 c2 l k w' (by unfold maxLen; omega) h
    have HU := Lib.hid (untilC_eq l k)
    rw [HU.out] at hunt
    obtain ⟨i0, hi0, hz0, hz1, hz2⟩ := info_parts info35
    have HI := Lib.hid (And.intro hi0 (And.intro hz0 (And.intro hz1 hz2)))
    clear hC hS hbig HU hi0 hz0 hz1 hz2
    have HUnt := Lib.hid hunt
    clear hunt
    go_enter Try.func7, Try.ntmps7
    go_wp2_with fail
    refine (awake_any _).mono ?_
    rintro e w1 ⟨rfl, o1⟩
    have hwc := World.ownsRow_made (e := 35) (size := 4) (base := w1.heap.size) w1 #[] 0 (Nat.le_refl _) (Nat.zero_le _) rfl
    have HM := Lib.hid hwc
    have hx1 := fun w2 (hg2 : (w1.alloc (.cells #[] 35)).grownBy w2 (some w1.heap.size)) => (((Only.refl (fun _ => False) w1).alloc (.cells #[] 35)).grown hg2 (fun i hi => by injection hi with hi; omega))
    have HX1 := Lib.hid hx1
    have hsrc : Src (w1.alloc (.cells #[] 35)) a l.length cap (flatC l) := HS.out.onlyF (o1.alloc _)
    have HSrc := Lib.hid hsrc
    clear hwc hx1 hsrc
    go_wp2_with (at_builtin; refine wpList_append_src rfl (.tmp 21) (.tmp 22) 22 35 rfl i0 _ Try.underlying22 HI.out.1 HI.out.2.1 HI.out.2.2.1 HI.out.2.2.2 rfl w1.heap.size _ 0 [] rfl HM.out a l.length cap (flatC l) rfl HSrc.out (flatC_one _) (by unfold maxLen; omega) (by omega) (by simp) l.length (by omega) (flatC l) rfl ?_; intro A1 c1 w2 hown2 hg2; have o2 := HX1.out w2 hg2)
    refine (HUnt.out _ _ _ (own_cds2 hown2 rfl)).mono ?_
    rintro e w3 ⟨v, rfl, hv, o3⟩
    obtain ⟨a3, c3, rfl, h3, -⟩ := hv.cds
    have o13 := (o1.trans o2).trans o3
    have H3 := Lib.hid h3
    clear hown2 hg2 hv h3 o1 o2 o3
    rcases runtil_two l k with hr | ⟨hc, hk0, hr⟩
    · have HR := Lib.hid hr
      clear hr H3
      rw [HR.out]
      go_wp2_with fail
      go_ret
      exact ⟨rfl, o13⟩
    · have hN := untilN_le (orderF l) k
      rw [len_order] at hN
      have HNl : Hid (((orderF l).take (untilN (orderF l) k)).length = untilN (orderF l) k) := by
        show ((orderF l).take (untilN (orderF l) k)).length = untilN (orderF l) k
        rw [List.length_take, len_order]; omega
      have HR := Lib.hid hr
      have hb : ∀ w', CdsAt w' a l → Calls Try.prog 10 #[.slice a l.length cap, .int .i64 (untilN (orderF l) k : Nat)] w' (PickRes w' ((orderF l).take (untilN (orderF l) k), 0)) := fun w' h => by
        have := best_any a cap l ((untilN (orderF l) k : Nat) : Int) w' (by unfold maxLen; omega) h
        rw [bestC_eq] at this
        have e : rbestC l ((untilN (orderF l) k : Nat) : Int) = ((orderF l).take (untilN (orderF l) k), 0) := by
          unfold rbestC
          rw [if_neg (by rw [hc]; simp)]
          simp
        rw [e] at this
        exact this
      have HB := Lib.hid hb
      have hgd : ∀ x ∈ (orderF l).take (untilN (orderF l) k), Gd x := fun x hx => gd_chk hc x ((mem_orderF _ _).1 (List.mem_of_mem_take hx))
      have hlt : ∀ i, i < untilN (orderF l) k → freeS (((orderF l).take (untilN (orderF l) k)).take i) < k := fun i hi => by
        rw [List.take_take, Nat.min_eq_left (by omega)]
        exact until_lt _ i k hi
      have HGd := Lib.hid hgd
      have HLt := Lib.hid hlt
      have HEnd := Lib.hid (until_end (orderF l) k)
      have HPos := Lib.hid (fun h => until_pos (o := orderF l) (room := k) h)
      have HOl := Lib.hid (len_order l)
      clear hc hr hb hgd hlt
      rw [HR.out]
      simp only [HNl.out]
      have H3' : Hid (CdsAt w3 a3 ((orderF l).take (untilN (orderF l) k))) := by
        have := H3.out
        rw [HR.out] at this
        exact this
      clear H3
      generalize hn : untilN (orderF l) k = n at *
      have HN := Lib.hid hn
      clear hn
      generalize hrl : (orderF l).take n = rl at *
      have HRl := Lib.hid hrl
      clear hrl
      go_wp2_with fail
      refine (HB.out _ (HC.out.onlyF o13)).mono ?_
      rintro e w4 ⟨v4, rfl, hv4, o4⟩
      obtain ⟨a4, c4, e4, h4, -⟩ := hv4.cds
      have hln : Hid (rl.length = n) := HNl.out
      subst e4
      have H4 := Lib.hid h4
      clear hv4 h4
      simp only
      go_wp2_with fail
      refine (ref_any a4 c4 rl w4 (by rw [hln.out]; omega) H4.out).mono ?_
      rintro e w5 ⟨v5, rfl, hO, o5⟩
      obtain ⟨A5, c5, rfl⟩ := own_slice hO
      have h5 := own_cds2 hO rfl
      clear hO
      have hSS : Calls Try.prog 13 #[.slice a3 n c3, .slice A5 rl.length c5] w5 fun e w' => e = .returned (.bool true) ∧ Only (fun _ => False) w5 w' := by
        have := same_any a3 A5 c3 c5 rl rl w5 (by rw [hln.out]; omega) (by rw [hln.out]; omega) (H3'.out.onlyF (o4.trans o5)) h5
        simp only [decide_true] at this
        rw [← hln.out]
        exact this
      clear h5
      go_wp2_with fail
      refine hSS.mono ?_
      rintro e w6 ⟨rfl, o6⟩
      clear hSS
      have o36 := (o4.trans o5).trans o6
      have H6 := Lib.hid (H3'.out.onlyF o36)
      have oo := o13.trans o36
      clear o4 o5 o6 o36 o13
      go_wp2_with fail
      go_loopw [9, 51] (fun mv iv wr => ∃ (i : Nat), i ≤ n ∧ iv = .int .i64 i ∧ mv = .int .i64 (freeS (rl.take i)) ∧ Only (fun _ => False) w6 wr) (fun _ iv _ => n - (intOf iv).toNat)
      case atStart => exact ⟨0, Nat.zero_le _, rfl, rfl, Only.refl _ _⟩
      case round =>
        obtain ⟨i, hi, rfl, rfl, o⟩ := hrel
        have hbd := free_bd HGd.out i (by rw [hln.out]; exact hi)
        by_cases hlt : i < n
        · have hlr : i < rl.length := by rw [hln.out]; exact hlt
          have hnx := Lib.hid (free_next rl i hlr)
          have hgx := HGd.out _ (getD_mem hlr)
          obtain ⟨b, off, ha, z0, z1, z2, z3⟩ := (H6.out.onlyF o) i hlr
          subst ha
          have hml := HLt.out i hlt
          have hkp : 0 < k := HPos.out (by omega)
          have hkb : (k == 0) = false := by rw [beq_eq_false_iff_ne]; omega
          obtain ⟨x1, x2, x3, x4, x5, x6⟩ := hgx
          generalize rl.getD i Cd.zero = x at *
          generalize freeS (rl.take i) = made at *
          clear hlr
          have hlt1 : (i : Int) < (n : Int) := by omega
          go_wp2_with fail
          go_roundw
          case rel => exact ⟨i + 1, by omega, by go_num, by rw [hnx.out], o.alloc _⟩
          case measure => simp [intOf]; omega
        · obtain rfl : i = n := by omega
          have hE := HEnd.out
          have hD : Hid (freeS (rl.take i) ≥ k ∨ i = l.length) := by
            show freeS (rl.take i) ≥ k ∨ i = l.length
            rw [HOl.out] at hE
            rcases hE with hE | hE
            · exact .inr hE
            · refine .inl ?_
              rw [← hln.out, List.take_length]
              exact hE
          clear hE
          generalize freeS (rl.take i) = made at *
          by_cases hmk : k ≤ made
          · go_wp2_with fail
            go_ret
            exact ⟨rfl, oo.trans o⟩
          · have hil : (i : Int) = l.length := by
              rcases hD.out with h | h
              · omega
              · omega
            have hil2 : ((i : Int) == (l.length : Int)) = true := by rw [beq_iff_eq]; exact hil
            have HIl := Lib.hid hil
            clear hil
            go_wp2_with fail
            go_ret
            exact ⟨rfl, oo.trans o⟩
end Go.Proofs.Ytojhleijpcghoaa
