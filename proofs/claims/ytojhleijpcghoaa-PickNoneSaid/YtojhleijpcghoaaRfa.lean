/-
  The walks of the statements' ref and same: what they answer. Conditions: the slices' cells.
-/
import Derived.Test.YtojhleijpcghoaaBst
namespace Go.Proofs.Ytojhleijpcghoaa
open Go.RowKit
set_option linter.unusedVariables false

theorem info39 : (Try.prog.info? 39).map (fun i => (i.zero, i.size, i.bytes)) = some (some (.agg #[.int .i64 0, .int .i64 0, .int .i64 0, .int .i64 0]), 4, 32) := by kernel_rfl

theorem flatC_next (l : List Cd) (k : Nat) (h : k < l.length) : flatC (l.take (k + 1)) = flatC (l.take k) ++ [.int .i64 (l.getD k Cd.zero).seg, .int .i64 (l.getD k Cd.zero).live, .int .i64 (l.getD k Cd.zero).cap, .int .i64 (l.getD k Cd.zero).age] := by
  rw [List.take_succ_eq_append_getElem h, flatC_append, List.getD_eq_getElem?_getD, List.getElem?_eq_getElem h]
  rfl

/-- A new row of the document's candidates. -/
def RowRes (w : World) (l : List Cd) (e : Ending) (w' : World) : Prop := ∃ v, e = .returned v ∧ w'.ownsRow w.heap.size 39 4 v l.length (flatC l) ∧ Only (fun _ => False) w w'

theorem cds_row {w : World} {B n : Nat} {t : TypeId} {v : Value} {l : List Cd} (hown : w.ownsRow B t 4 v n (flatC l)) (hn : n = l.length) : Cds w B v l := by
  subst hn
  obtain ⟨_, h⟩ := hown
  rcases h with ⟨rfl, h0⟩ | ⟨g, cap, cur, rfl, hg, hh, hn, hcap, hcur, hx⟩
  · rw [List.eq_nil_of_length_eq_zero h0]
    exact ⟨none, 0, rfl, fun k hk => by simp at hk, fun b off e => by simp at e⟩
  · refine ⟨_, cap, rfl, fun k hk => ⟨g, 0, rfl, ?_⟩, fun b off e => by simp at e; omega⟩
    have hc : ∀ j u, j < l.length * 4 → (flatC l)[j]? = some u → w.cell? ⟨g, j, none⟩ = some u := by
      intro j u hj hu
      have h2 : (cur.toList.take (l.length * 4))[j]? = (flatC l)[j]? := by rw [hx]
      rw [List.getElem?_take_of_lt hj, hu] at h2
      have h3 : cur[j]? = some u := by rw [← h2]; simp
      simp [World.cell?, hh, h3]
    obtain ⟨h0, h1, h2, h3⟩ := flatC_at l k hk
    rw [Nat.zero_add]
    exact ⟨hc _ _ (by omega) h0, hc _ _ (by omega) h1, hc _ _ (by omega) h2, hc _ _ (by omega) h3⟩

set_option maxHeartbeats 1000000 in
theorem ref_any (a : Option Addr) (cap : Nat) (l : List Cd) (w : World) (hL : l.length ≤ 1000) (h : CdsAt w a l) :
    Calls Try.prog 12 #[.slice a l.length cap] w (RowRes w l) := by
  have HA := Lib.hid h
  obtain ⟨i0, hi0, hz0, hz1, hz2⟩ := info_parts info39
  have HI := Lib.hid (And.intro hi0 (And.intro hz0 (And.intro hz1 hz2)))
  clear h hi0 hz0 hz1 hz2
  go_enter Try.func12, Try.ntmps12
  go_wp2_with fail
  go_loopw [3, 8] (fun v iv wr => ∃ (k : Nat), k ≤ l.length ∧ iv = .int .i64 k ∧ wr.ownsRow w.heap.size 39 4 v k (flatC (l.take k)) ∧ Only (fun _ => False) w wr) (fun _ iv _ => l.length - (intOf iv).toNat)
  case atStart => exact ⟨0, Nat.zero_le _, rfl, World.ownsRow_nil _ _ _ _, Only.refl _ _⟩
  case round =>
    obtain ⟨k, hk, rfl, hO, o⟩ := hrel
    by_cases hlt : k < l.length
    · obtain ⟨b, off, ha, g0, g1, g2, g3⟩ := (HA.out.onlyF o) k hlt
      subst ha
      have hn := Lib.hid (flatC_next l k hlt)
      generalize l.getD k Cd.zero = x at *
      obtain ⟨A, c, rfl⟩ := own_slice hO
      have hw0 : w.heap.size ≤ wr.heap.size := o.size
      have HO := Lib.hid hO
      clear hO
      go_wp2_with (at_builtin; refine wpList_append_lies _ rfl (.tmp 12) (.tmp 22) 27 rfl w.heap.size 39 i0 _ 4 32 Try.underlying27 HI.out.1 HI.out.2.1 HI.out.2.2.1 HI.out.2.2.2 rfl (by omega) (.slice A k c) k _ rfl ((HO.out.alloc _).alloc _) ⟨wr.heap.size + 1, 0, none⟩ 1 1 [.int .i64 x.seg, .int .i64 x.live, .int .i64 x.cap, .int .i64 x.age] (by rfl) (by rfl) (World.news_of_block (cs := #[.int .i64 x.seg, .int .i64 x.live, .int .i64 x.cap, .int .i64 x.age]) (t := 39) (fr := (0, 0)) (alloc2_new wr _ _)) (by simp [Value.oneCell']) (by omega) (by unfold maxLen; omega) (by omega) (size2_le hw0) _ rfl ?_; intro g gc w5 hown5 hg5 hat5 hlt5)
      have hown6 : w5.ownsRow w.heap.size 39 4 (.slice (some ⟨g, 0, none⟩) (k + 1) gc) (k + 1) (flatC (l.take (k + 1))) := by
        rw [hn.out]; exact hown5
      have o6 : Only (fun _ => False) w w5 := ((o.alloc _).alloc _).grown hg5 (fun i hi => (HO.out.lt i hi).1)
      go_roundw
      case rel => exact ⟨k + 1, by omega, by go_num, hown6, o6⟩
      case measure => simp [intOf]; omega
    · obtain rfl : k = l.length := by omega
      rw [List.take_length] at hO
      have HO := Lib.hid hO
      clear hO
      go_wp2_with fail
      go_ret
      exact ⟨_, rfl, HO.out, o⟩

theorem getD_eq {l m : List Cd} (h : l.length = m.length) (he : ∀ j, j < l.length → l.getD j Cd.zero = m.getD j Cd.zero) : l = m := by
  apply List.ext_getElem h
  intro i h1 h2
  have := he i h1
  rw [List.getD_eq_getElem?_getD, List.getD_eq_getElem?_getD, List.getElem?_eq_getElem h1, List.getElem?_eq_getElem h2] at this
  simpa using this

theorem ret_bool {a b : Bool} (h : a = b) : Ending.returned (.bool a) = .returned (.bool b) := by rw [h]
theorem cd_cases (x y : Cd) : x = y ∨ ¬ x.seg = y.seg ∨ (x.seg = y.seg ∧ ¬ x.live = y.live) ∨ (x.seg = y.seg ∧ x.live = y.live ∧ ¬ x.cap = y.cap) ∨ (x.seg = y.seg ∧ x.live = y.live ∧ x.cap = y.cap ∧ ¬ x.age = y.age) := by
  obtain ⟨a, b, c, d⟩ := x
  obtain ⟨e, f, g, h⟩ := y
  simp only [Cd.mk.injEq]
  by_cases h1 : a = e
  · by_cases h2 : b = f
    · by_cases h3 : c = g
      · by_cases h4 : d = h
        · exact .inl ⟨h1, h2, h3, h4⟩
        · exact .inr (.inr (.inr (.inr ⟨h1, h2, h3, h4⟩)))
      · exact .inr (.inr (.inr (.inl ⟨h1, h2, h3⟩)))
    · exact .inr (.inr (.inl ⟨h1, h2⟩))
  · exact .inr (.inl h1)

set_option maxRecDepth 100000 in
set_option maxHeartbeats 2000000 in
theorem same_any (a b : Option Addr) (ca cb : Nat) (l m : List Cd) (w : World) (hL : l.length ≤ 1000) (hM : m.length ≤ 1000) (h : CdsAt w a l) (h2 : CdsAt w b m) :
    Calls Try.prog 13 #[.slice a l.length ca, .slice b m.length cb] w fun e w' => e = .returned (.bool (decide (l = m))) ∧ Only (fun _ => False) w w' := by
  have hR := ref_any a ca l w hL h
  have HB := Lib.hid h2
  clear h h2
  by_cases hlm : l.length = m.length
  · have hcmp : ((l.length : Int) != (m.length : Int)) = false := by simp [hlm]
    have HL := Lib.hid hlm
    clear hlm
    go_enter Try.func13, Try.ntmps13
    go_wp2_with fail
    refine hR.mono ?_
    rintro e w2 ⟨v, rfl, hO, o2⟩
    obtain ⟨A, c, rfl⟩ := own_slice hO
    obtain ⟨A', c', e, h1, -⟩ := cds_row hO rfl
    injection e with e1 e2 e3
    subst e1; subst e3
    have H1 := Lib.hid h1
    clear hR hO h1 e2
    go_wp2_with fail
    go_loopw [16] (fun iv wr => ∃ (k : Nat), k ≤ l.length ∧ iv = .int .i64 k ∧ Hid (∀ j, j < k → l.getD j Cd.zero = m.getD j Cd.zero) ∧ Only (fun _ => False) w2 wr) (fun iv _ => l.length - (intOf iv).toNat)
    case atStart => exact ⟨0, Nat.zero_le _, rfl, fun j hj => absurd hj (Nat.not_lt_zero _), Only.refl _ _⟩
    case round =>
      obtain ⟨k, hk, rfl, hE, o⟩ := hrel
      by_cases hlt : k < l.length
      · obtain ⟨b1, off1, ha, g0, g1, g2, g3⟩ := (H1.out.onlyF o) k hlt
        obtain ⟨b2, off2, hb, f0, f1, f2, f3⟩ := (HB.out.onlyF (o2.trans o)) k (by rw [← HL.out]; exact hlt)
        have hlt2 : (k : Int) < m.length := by rw [← HL.out]; omega
        have hlt1 : (k : Int) < l.length := by omega
        subst ha hb
        generalize hx : l.getD k Cd.zero = x at *
        generalize hy : m.getD k Cd.zero = y at *
        have HX := Lib.hid hx
        have HY := Lib.hid hy
        clear hx hy
        rcases cd_cases x y with rfl | hc | ⟨c1, hc⟩ | ⟨c1, c2, hc⟩ | ⟨c1, c2, c3, hc⟩
        · have HE2 : Hid (∀ j, j < k + 1 → l.getD j Cd.zero = m.getD j Cd.zero) := fun j hj => by
            by_cases e : j = k
            · subst e; rw [HX.out, HY.out]
            · exact hE.out j (by omega)
          go_wp2_with fail
          go_region
          go_wp2_with fail
          go_roundw
          case rel => exact ⟨k + 1, by omega, by go_num, HE2.out, o.drew⟩
          case measure => simp [intOf]; omega
        all_goals
          have hd : Hid (decide (l = m) = false) := by
            show decide (l = m) = false
            rw [decide_eq_false_iff_not]
            rintro rfl
            have := HX.out.symm.trans HY.out
            subst this
            exact hc rfl
          go_wp2_with fail
          go_region
          go_wp2_with fail
          go_ret
          exact ⟨ret_bool hd.out.symm, o2.trans o.drew⟩
      · obtain rfl : k = l.length := by omega
        have hd : Hid (decide (l = m) = true) := by
          show decide (l = m) = true
          rw [decide_eq_true_eq]
          exact getD_eq HL.out hE.out
        go_wp2_with fail
        go_ret
        exact ⟨ret_bool hd.out.symm, o2.trans o⟩
  · have hlm' : ((l.length : Int) != (m.length : Int)) = true := by simp; omega
    have hd : Hid (decide (l = m) = false) := by
      show decide (l = m) = false
      rw [decide_eq_false_iff_not]
      rintro rfl
      exact hlm rfl
    clear hlm
    rw [hd.out]
    go_enter Try.func13, Try.ntmps13
    go_wp2_with fail
    refine hR.mono ?_
    rintro e w2 ⟨v, rfl, hO, o2⟩
    obtain ⟨A, c, rfl⟩ := own_slice hO
    clear hR hO
    go_wp2_with fail
    go_ret
    exact ⟨rfl, o2⟩
end Go.Proofs.Ytojhleijpcghoaa
