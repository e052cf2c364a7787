/-
  The walk of PickTurned: it returns true. Conditions: the slice's cells.
-/
import Derived.Test.YtojhleijpcghoaaPbw
namespace Go.Proofs.Ytojhleijpcghoaa
open Go.RowKit
set_option linter.unusedVariables false

/-! ### The order of unlike segments -/
/-- Not behind, without places. -/
def leC (x y : Cd) : Prop := betC y x = false
theorem placeF_map (l : List Cd) : ∀ k, (placeF k l).map Pl.c = l := by
  induction l with
  | nil => intro k; rfl
  | cons c l ih => intro k; simp [placeF, ih]
theorem orderF_is (l : List Cd) : (orderPl (placeF 0 l) []).map Pl.c = orderF l := by
  rw [orderPl_map]
  rfl
theorem orderF_perm (l : List Cd) : (orderF l).Perm l := by
  rw [← orderF_is]
  have h := (orderPl_perm (placeF 0 l) []).map Pl.c
  rw [List.append_nil, placeF_map] at h
  exact h
theorem orderF_sorted {l : List Cd} (hg : ∀ c ∈ l, Gd c) : (orderF l).Pairwise leC := by
  rw [← orderF_is, List.pairwise_map]
  exact (orderPl_sorted l 0 [] hg (fun y hy => by simp at hy) (fun y hy => by simp at hy) List.Pairwise.nil).imp fun h => ((le_iff _ _).1 h).1
theorem leC_seg {x y : Cd} (h1 : leC x y) (h2 : leC y x) : x.seg = y.seg := by
  unfold leC at h1 h2
  rw [Bool.eq_false_iff, Ne, bet_iff] at h1 h2
  omega
theorem orderF_turned {l m : List Cd} (hp : m.Perm l) (hg : ∀ c ∈ l, Gd c) (hd : ∀ x ∈ l, ∀ y ∈ l, x.seg = y.seg → x = y) : orderF m = orderF l := by
  refine List.Perm.eq_of_pairwise ?_ (orderF_sorted fun c hc => hg c (hp.mem_iff.1 hc)) (orderF_sorted hg) (((orderF_perm m).trans hp).trans (orderF_perm l).symm)
  intro x y hx hy h1 h2
  exact hd x (hp.mem_iff.1 ((mem_orderF _ _).1 hx)) y ((mem_orderF _ _).1 hy) (leC_seg h1 h2)
theorem chk_turned {l m : List Cd} (hp : m.Perm l) : chkC m = chkC l := by
  have h1 : m.any badC = l.any badC := by
    rw [Bool.eq_iff_iff, List.any_eq_true, List.any_eq_true]
    constructor
    · rintro ⟨x, hx, h⟩; exact ⟨x, hp.mem_iff.1 hx, h⟩
    · rintro ⟨x, hx, h⟩; exact ⟨x, hp.mem_iff.2 hx, h⟩
  unfold chkC
  rw [h1, hp.length_eq]
theorem rbest_turned {l m : List Cd} (hp : m.Perm l) (hd : ∀ x ∈ l, ∀ y ∈ l, x.seg = y.seg → x = y) (k : Int) : rbestC m k = rbestC l k := by
  unfold rbestC
  rw [chk_turned hp]
  rcases chk_two l with hc | hc
  · rw [orderF_turned hp (gd_chk hc) hd]
  · rw [if_pos (.inl (by rw [hc]; decide)), if_pos (.inl (by rw [hc]; decide))]
theorem runtil_turned {l m : List Cd} (hp : m.Perm l) (hd : ∀ x ∈ l, ∀ y ∈ l, x.seg = y.seg → x = y) (k : Int) : runtilC m k = runtilC l k := by
  unfold runtilC
  rw [chk_turned hp]
  rcases chk_two l with hc | hc
  · rw [orderF_turned hp (gd_chk hc) hd]
  · rw [if_pos (.inl (by rw [hc]; decide)), if_pos (.inl (by rw [hc]; decide))]
theorem unlike_of {l : List Cd} (h : ∀ p q, p < q → q < l.length → (l.getD p Cd.zero).seg ≠ (l.getD q Cd.zero).seg) : ∀ x ∈ l, ∀ y ∈ l, x.seg = y.seg → x = y := by
  have key : ∀ i (hi : i < l.length), l.getD i Cd.zero = l[i] := fun i hi => by rw [List.getD_eq_getElem?_getD, List.getElem?_eq_getElem hi]; rfl
  intro x hx y hy e
  obtain ⟨i, hi, rfl⟩ := List.getElem_of_mem hx
  obtain ⟨j, hj, rfl⟩ := List.getElem_of_mem hy
  rcases Nat.lt_trichotomy i j with hij | hij | hij
  · exact absurd (by rw [key i hi, key j hj]; exact e) (h i j hij hj)
  · subst hij; rfl
  · exact absurd (by rw [key i hi, key j hj]; exact e.symm) (h j i hij hi)

theorem turn_n (by_ : Int) (len : Nat) (h0 : 0 < len) (h1 : len ≤ 100) : ∃ n : Nat, n < len ∧ wrap64 ((IntKind.u64.wrap by_).tmod (len : Int)) = (n : Int) := by
  have hu : 0 ≤ IntKind.u64.wrap by_ := by
    have : IntKind.u64.wrap by_ = by_ % 18446744073709551616 := rfl
    omega
  generalize IntKind.u64.wrap by_ = u at *
  have h2 : u.tmod len = u % len := Int.tmod_eq_emod_of_nonneg hu
  have h3 : 0 ≤ u % (len : Int) := Int.emod_nonneg _ (by omega)
  have h4 : u % (len : Int) < len := Int.emod_lt_of_pos _ (by omega)
  rw [h2, IntWalk.wrap64_in _ (by omega)]
  exact ⟨(u % (len : Int)).toNat, by omega, by omega⟩
theorem CdsAt.drop {w : World} {b off : Nat} {l : List Cd} (h : CdsAt w (some ⟨b, off, none⟩) l) (n : Nat) : CdsAt w (some ⟨b, off + n * 4, none⟩) (l.drop n) := by
  intro k hk
  rw [List.length_drop] at hk
  obtain ⟨z0, z1, z2, z3⟩ := cds_at h (show n + k < l.length by omega) rfl
  have e : (l.drop n).getD k Cd.zero = l.getD (n + k) Cd.zero := by
    rw [List.getD_eq_getElem?_getD, List.getD_eq_getElem?_getD, List.getElem?_drop]
  rw [e]
  refine ⟨b, off + n * 4, rfl, ?_⟩
  rw [show off + n * 4 + k * 4 = off + (n + k) * 4 by omega]
  exact ⟨z0, z1, z2, z3⟩
/-- An append of candidates, as a step of a region that draws. -/
theorem step_src {w : World} {ops : Array Oper} {o : Oper} {a : Act} {K : Act → World → Prop} {Q : Exit → Act → World → Prop} {E : Prop} (hgd : o.guard = none) (s x : Operand)
    (ho : o.op = .call { callee := .builtin .append, args := #[s, x], argTypes := #[22, 22] })
    (i : TypeInfo) (z : Value) (hi : Try.prog.info? 35 = some i) (hz : i.zero = some z) (hsize : i.size = 4) (hby : i.bytes = 32) (hzs : z.cells.size = 4)
    (base : Nat) (v : Value) (n : Nat) (xs : List Cd) (hs : a.eval s = v) (hown : w.ownsRow base 35 4 v n (flatC xs))
    (ad : Addr) (m c : Nat) (news : List Cd) (hx : a.eval x = .slice (some ad) m c) (hl : news.length = m) (hsrc : CdsAt w (some ad) news)
    (h63 : n + m ≤ 1000) (hbase : base ≤ w.heap.size) (nm : Nat) (hnm : n + m = nm) (ys : List Cd) (hys : xs ++ news = ys)
    (h : ∀ A' c' w', w'.ownsRow base 35 4 (.slice A' nm c') nm (flatC ys) → w.grownBy w' v.ownBlock → K (a.put o.dst (.slice A' nm c')) w') :
    if Region.wanted o (yielded ops a.tmps) = true then Oper.wp Try.prog o a w K Q else E := by
  have hw : Region.wanted o (yielded ops a.tmps) = true := by simp [Region.wanted, hgd]
  rw [if_pos hw]
  subst hnm hys hl
  have hc : ∀ j u, (flatC news)[j]? = some u → w.cell? (ad.add j) = some u := by
    intro j u hu
    have hj : j < news.length * 4 := by rw [← flatC_length]; exact (List.getElem?_eq_some_iff.1 hu).1
    obtain ⟨b1, off1, e, -⟩ := hsrc 0 (by omega)
    injection e with e
    subst e
    rcases src_of_cds (c := 0) hsrc with ⟨e, _⟩ | ⟨ad, e, _, hc⟩
    · simp at e
    · injection e with e
      subst e
      exact hc j u hu
  refine wp_append_own w s x 22 ho base 35 i z 4 32 Try.underlying22 hi hz hsize hby hzs (by decide) v n (flatC xs) hs hown ad news.length c (flatC news) hx (flatC_length _) hc (flatC_one _) (by unfold maxLen; omega) (by omega) hbase ?_
  intro v' w' hown' hg _
  obtain ⟨A', c', rfl⟩ := own_slice hown'
  exact h A' c' w' (by rw [flatC_append]; exact hown') hg

set_option maxHeartbeats 2000000 in
theorem turned_walk (a : Option Addr) (len cap : Nat) (by_ k : Int) (w : World) (l : List Cd) (hb1 : -9223372036854775808 ≤ by_) (hb2 : by_ ≤ 9223372036854775807) (h : InAt w a len cap l) :
    Calls Try.prog 8 #[.slice a len cap, .int .i64 by_, .int .i64 k] w fun e w' => e = .returned (.bool true) ∧ Only (fun _ => False) w w' := by
  obtain ⟨hlen, hl, hcap, hlc, hC, hS⟩ := h
  subst hlen
  unfold maxLen at hl
  by_cases h0 : l.length = 0
  · have h0' : ((l.length : Int) == 0) = true := by rw [beq_iff_eq]; omega
    have HC := Lib.hid h0
    clear hC hS h0
    go_enter Try.func8, Try.ntmps8
    go_wp2_with fail
    refine (awake_any _).mono ?_
    rintro e w1 ⟨rfl, o1⟩
    go_wp2_with fail
    refine (awake_any _).mono ?_
    rintro e w2 ⟨rfl, o2⟩
    go_wp2_with fail
    go_ret
    exact ⟨rfl, o1.trans o2⟩
  have h0' : ((l.length : Int) == 0) = false := by rw [beq_eq_false_iff_ne]; omega
  have hpos : 0 < l.length := by omega
  clear h0
  by_cases hbig : 100 < l.length
  · clear hC hS
    go_enter Try.func8, Try.ntmps8
    go_wp2_with fail
    refine (awake_any _).mono ?_
    rintro e w1 ⟨rfl, o1⟩
    go_wp2_with fail
    refine (awake_any _).mono ?_
    rintro e w2 ⟨rfl, o2⟩
    go_wp2_with fail
    go_ret
    exact ⟨rfl, o1.trans o2⟩
  · have h100 : l.length ≤ 100 := by omega
    obtain ⟨b, off, rfl, -⟩ := hC 0 hpos
    have HC := Lib.hid hC
    unfold maxLen at hcap
    obtain ⟨i0, hi0, hz0, hz1, hz2⟩ := info_parts info35
    have HI := Lib.hid (And.intro hi0 (And.intro hz0 (And.intro hz1 hz2)))
    clear hC hS hbig hi0 hz0 hz1 hz2
    go_enter Try.func8, Try.ntmps8
    go_wp2_with fail
    refine (awake_any _).mono ?_
    rintro e w1 ⟨rfl, o1⟩
    go_wp2_with fail
    go_loopw [34] (fun iv wr => ∃ (i : Nat), i ≤ l.length ∧ iv = .int .i64 i ∧ Hid (∀ p q, p < q → q < i → (l.getD p Cd.zero).seg ≠ (l.getD q Cd.zero).seg) ∧ Only (fun _ => False) w wr) (fun iv _ => l.length - (intOf iv).toNat)
    case atStart => exact ⟨0, Nat.zero_le _, rfl, fun p q _ hq => absurd hq (Nat.not_lt_zero _), o1⟩
    case round =>
      obtain ⟨i, hi, rfl, hD, o⟩ := hrel
      by_cases hlt : i < l.length
      · have hlt1 : (i : Int) < (l.length : Int) := by omega
        have hic : i ≤ cap := by omega
        go_wp2_with fail
        go_loopw [41] (fun jv wq => ∃ (j : Nat), j ≤ i ∧ jv = .int .i64 j ∧ Hid (∀ p, p < j → (l.getD p Cd.zero).seg ≠ (l.getD i Cd.zero).seg) ∧ Only (fun _ => False) w wq) (fun jv _ => i - (intOf jv).toNat)
        case atStart => exact ⟨0, Nat.zero_le _, rfl, fun p hp => absurd hp (Nat.not_lt_zero _), o⟩
        case round =>
          obtain ⟨j, hj, rfl, hE, oq⟩ := hrel
          by_cases hjt : j < i
          · have hjt1 : (j : Int) < (i : Int) := by omega
            have hjl : j < l.length := by omega
            have hjl1 : (j : Int) < (l.length : Int) := by omega
            obtain ⟨z0, -, -, -⟩ := cds_at (HC.out.onlyF oq) hlt rfl
            obtain ⟨y0, -, -, -⟩ := cds_at (HC.out.onlyF oq) hjl rfl
            by_cases hse : (l.getD j Cd.zero).seg = (l.getD i Cd.zero).seg
            · generalize (l.getD i Cd.zero).seg = s1 at *
              generalize (l.getD j Cd.zero).seg = s2 at *
              subst hse
              go_wp2_with fail
              go_region
              go_wp2_with fail
              go_ret
              exact ⟨rfl, oq.drew⟩
            · have hE2 : Hid (∀ p, p < j + 1 → (l.getD p Cd.zero).seg ≠ (l.getD i Cd.zero).seg) := fun p hp => by
                by_cases e : p = j
                · subst e; exact hse
                · exact hE.out p (by omega)
              have hbe : ((l.getD i Cd.zero).seg == (l.getD j Cd.zero).seg) = false := by rw [beq_eq_false_iff_ne]; exact fun e => hse e.symm
              clear hse
              generalize hs1 : (l.getD i Cd.zero).seg = s1 at *
              generalize hs2 : (l.getD j Cd.zero).seg = s2 at *
              have HS1 := Lib.hid hs1
              clear hs1 hs2
              go_wp2_with fail
              go_region
              go_wp2_with fail
              go_roundw
              case rel => exact ⟨j + 1, by omega, by go_num, hE2.out, oq.drew⟩
              case measure => simp [intOf]; omega
          · obtain rfl : j = i := by omega
            have hD2 : Hid (∀ p q, p < q → q < j + 1 → (l.getD p Cd.zero).seg ≠ (l.getD q Cd.zero).seg) := fun p q hp hq => by
              by_cases e : q = j
              · subst e; exact hE.out p hp
              · exact hD.out p q hp (by omega)
            go_wp2_with fail
            go_roundw
            case rel => exact ⟨j + 1, by omega, by go_num, hD2.out, oq⟩
            case measure => simp [intOf]; omega
      · obtain rfl : i = l.length := by omega
        go_wp2_with fail
        obtain ⟨n, hn, hnn⟩ := turn_n by_ l.length hpos h100
        rw [hnn]
        clear hnn
        have hd := unlike_of hD.out
        have hp : (l.drop n ++ l.take n).Perm l := List.perm_append_comm.trans (by rw [List.take_append_drop])
        have hrb := rbest_turned hp hd k
        have hru := runtil_turned hp hd k
        have hml : (l.drop n ++ l.take n).length = l.length := hp.length_eq
        have HL := Lib.hid (And.intro hrb (And.intro hru hml))
        clear hd hp hrb hru hml hD
        have hn0 : (0 : Int) ≤ (n : Int) := Int.natCast_nonneg _
        have hn1 : (n : Int) ≤ (l.length : Int) := by omega
        have hn2 : (n : Int) ≤ (cap : Int) := by omega
        have hn3 : n ≤ l.length := by omega
        have hn4 : n ≤ cap := by omega
        have hn5 : ¬ cap = n := by omega
        have hwc := World.ownsRow_made (e := 35) (size := 4) (base := wr.heap.size) wr.drew #[] 0 (Nat.le_refl _) (Nat.zero_le _) rfl
        have HM := Lib.hid hwc
        have hx1 := fun w2 (hg2 : (wr.drew.alloc (.cells #[] 35)).grownBy w2 (some wr.heap.size)) => (((Only.refl (fun _ => False) wr).drew.alloc (.cells #[] 35)).grown hg2 (fun i hi => by injection hi with hi; omega))
        have HX1 := Lib.hid hx1
        have HCr := Lib.hid (HC.out.onlyF o)
        clear hwc hx1
        go_region_law
          (first
            | ((refine step_src (by rfl) (.tmp 64) (.tmp 67) (by rfl) i0 _ HI.out.1 HI.out.2.1 HI.out.2.2.1 HI.out.2.2.2 rfl wr.heap.size _ 0 [] (by rfl) HM.out ⟨b, off + n * 4, none⟩ (l.length - n) (cap - n) (l.drop n) (by rfl) (by rw [List.length_drop]) ((HCr.out.onlyF (w' := wr.drew.alloc (.cells #[] 35)) ((Only.refl (fun _ => False) wr).drew.alloc _)).drop n) (by omega) (by simp) (l.length - n) (by omega) (l.drop n) rfl ?_; intro A2 c2 w2 hown2 hg2; have o2 := HX1.out w2 hg2))
            | ((refine step_src (by rfl) (.tmp 68) (.tmp 71) (by rfl) i0 _ HI.out.1 HI.out.2.1 HI.out.2.2.1 HI.out.2.2.2 rfl wr.heap.size _ (l.length - n) (l.drop n) (by rfl) hown2 ⟨b, off, none⟩ n cap (l.take n) (by rfl) (by rw [List.length_take]; omega) ((HCr.out.onlyF o2).take n) (by omega) o2.size l.length (by omega) (l.drop n ++ l.take n) rfl ?_; intro A3 c3 w3 hown3 hg3; have o3 := o2.grown hg3 (fun i hi => (hown2.lt i hi).1))))
        have hml := HL.out.2.2
        have hT : CdsAt w3 A3 (l.drop n ++ l.take n) := own_cds2 hown3 hml.symm
        have hT2 := Lib.hid hT
        have ho := o.trans o3
        clear hown3 hg3 hown2 hg2 hT o2 o3
        have HB := fun w' (hc : CdsAt w' (some ⟨b, off, none⟩) l) => best_any (some ⟨b, off, none⟩) cap l k w' (by unfold maxLen; omega) hc
        have HBt := fun w' (hc : CdsAt w' A3 (l.drop n ++ l.take n)) => best_any A3 c3 (l.drop n ++ l.take n) k w' (by unfold maxLen; omega) hc
        have HU := fun w' (hc : CdsAt w' (some ⟨b, off, none⟩) l) => until_any (some ⟨b, off, none⟩) cap l k w' (by unfold maxLen; omega) hc
        have HUt := fun w' (hc : CdsAt w' A3 (l.drop n ++ l.take n)) => until_any A3 c3 (l.drop n ++ l.take n) k w' (by unfold maxLen; omega) hc
        simp only [bestC_eq, untilC_eq, HL.out.1, HL.out.2.1, HL.out.2.2] at HB HBt HU HUt
        have hlr := len_rbest (k := k) (show l.length ≤ 600 by omega)
        have hlu := len_runtil (k := k) (show l.length ≤ 600 by omega)
        generalize rbestC l k = rb at *
        generalize runtilC l k = ru at *
        obtain ⟨rb, rbc⟩ := rb
        obtain ⟨ru, ruc⟩ := ru
        have hB := Lib.hid HB
        have hBt := Lib.hid HBt
        have hU := Lib.hid HU
        have hUt := Lib.hid HUt
        clear HB HBt HU HUt hml HL
        simp only at hlr hlu
        go_wp2_with fail
        refine (hB.out _ (HC.out.onlyF ho)).mono ?_
        rintro e w4 ⟨v4, rfl, hv4, o4⟩
        obtain ⟨a4, c4, rfl, h4, -⟩ := hv4.cds
        have H4 := Lib.hid h4
        clear hv4 h4
        go_wp2_with fail
        refine (hBt.out _ (hT2.out.onlyF o4)).mono ?_
        rintro e w5 ⟨v5, rfl, hv5, o5⟩
        obtain ⟨a5, c5, rfl, h5, -⟩ := hv5.cds
        have H5 := Lib.hid h5
        clear hv5 h5
        have o45 := o4.trans o5
        go_wp2_with fail
        refine (hU.out _ (HC.out.onlyF (ho.trans o45))).mono ?_
        rintro e w6 ⟨v6, rfl, hv6, o6⟩
        obtain ⟨a6, c6, rfl, h6, -⟩ := hv6.cds
        have H6 := Lib.hid h6
        clear hv6 h6
        go_wp2_with fail
        refine (hUt.out _ (hT2.out.onlyF (o45.trans o6))).mono ?_
        rintro e w7 ⟨v7, rfl, hv7, o7⟩
        obtain ⟨a7, c7, rfl, h7, -⟩ := hv7.cds
        have H7 := Lib.hid h7
        clear hv7 h7
        simp only
        go_wp2_with fail
        refine (ref_any a5 c5 rb w7 (by omega) (H5.out.onlyF (o6.trans o7))).mono ?_
        rintro e w8 ⟨v8, rfl, hO, o8⟩
        obtain ⟨A8, c8, rfl⟩ := own_slice hO
        have h8 := own_cds2 hO rfl
        clear hO
        have hSS : Calls Try.prog 13 #[.slice a4 rb.length c4, .slice A8 rb.length c8] w8 fun e w' => e = .returned (.bool true) ∧ Only (fun _ => False) w8 w' := by
          have := same_any a4 A8 c4 c8 rb rb w8 (by omega) (by omega) (H4.out.onlyF (((o5.trans o6).trans o7).trans o8)) h8
          simp only [decide_true] at this
          exact this
        clear h8
        go_wp2_with fail
        refine hSS.mono ?_
        rintro e w9 ⟨rfl, o9⟩
        clear hSS
        go_wp2_with fail
        refine (ref_any a7 c7 ru w9 (by omega) (H7.out.onlyF (o8.trans o9))).mono ?_
        rintro e w10 ⟨v10, rfl, hO, o10⟩
        obtain ⟨A10, c10, rfl⟩ := own_slice hO
        have h10 := own_cds2 hO rfl
        clear hO
        have hSS : Calls Try.prog 13 #[.slice a6 ru.length c6, .slice A10 ru.length c10] w10 fun e w' => e = .returned (.bool true) ∧ Only (fun _ => False) w10 w' := by
          have := same_any a6 A10 c6 c10 ru ru w10 (by omega) (by omega) (H6.out.onlyF (((o7.trans o8).trans o9).trans o10)) h10
          simp only [decide_true] at this
          exact this
        clear h10
        go_wp2_with fail
        refine hSS.mono ?_
        rintro e w11 ⟨rfl, o11⟩
        clear hSS
        go_wp2_with fail
        go_ret
        exact ⟨rfl, (((((((ho.trans o45).trans o6).trans o7).trans o8).trans o9).trans o10).trans o11)⟩
end Go.Proofs.Ytojhleijpcghoaa
