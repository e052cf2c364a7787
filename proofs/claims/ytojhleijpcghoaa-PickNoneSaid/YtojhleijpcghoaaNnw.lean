/-
  The walk of PickNone: it returns true. Conditions: the slice's cells.
-/
import Derived.Test.YtojhleijpcghoaaTnw
import Derived.Deep.DeepCutAuto
namespace Go.Proofs.Ytojhleijpcghoaa
open Go.RowKit
set_option linter.unusedVariables false

/-- What Best answers, said by its list. -/
theorem rbest_two (l : List Cd) (k : Int) : rbestC l k = ([], 22) ∨ (chkC l = 0 ∧ 0 ≤ k ∧ rbestC l k = ((orderF l).take k.toNat, 0)) := by
  unfold rbestC
  split
  · exact .inl rfl
  · rename_i h
    have hc : chkC l = 0 := by
      rcases chk_two l with h1 | h1
      · exact h1
      · exact absurd (.inl (by rw [h1]; decide)) h
    exact .inr ⟨hc, by omega, rfl⟩

theorem b_mem {l b rest : List Cd} (h : b ++ rest = orderF l) (i : Nat) (hi : i < b.length) : b.getD i Cd.zero ∈ orderF l := by
  rw [← h]
  exact List.mem_append.2 (.inl (getD_mem hi))
theorem b_gd {l b rest : List Cd} (h : b ++ rest = orderF l) (hg : ∀ x ∈ orderF l, Gd x) (i : Nat) (hi : i < b.length) : Gd (b.getD i Cd.zero) := hg _ (b_mem h i hi)
theorem drop_at {b : List Cd} {i : Nat} (hi : i < b.length) : b.drop i = b.getD i Cd.zero :: b.drop (i + 1) := by
  rw [List.drop_eq_getElem_cons hi, List.getD_eq_getElem?_getD, List.getElem?_eq_getElem hi]
  rfl
theorem L_mem {b rest L : List Cd} {i : Nat} (h : L.Perm (b.drop i ++ rest)) (hi : i < b.length) : b.getD i Cd.zero ∈ L := by
  rw [h.mem_iff, drop_at hi]
  simp
/-- One element taken out. -/
theorem L_next {b rest L : List Cd} {i : Nat} (h : L.Perm (b.drop i ++ rest)) (hi : i < b.length) : ∀ p, p < L.length → L.getD p Cd.zero = b.getD i Cd.zero → (L.take p ++ L.drop (p + 1)).Perm (b.drop (i + 1) ++ rest) := by
  intro p hp e
  have h1 : L.take p ++ L.getD p Cd.zero :: L.drop (p + 1) = L := by
    rw [← drop_at hp, List.take_append_drop]
  have h2 : (L.getD p Cd.zero :: (L.take p ++ L.drop (p + 1))).Perm L := by
    have := (List.perm_middle (a := L.getD p Cd.zero) (l₁ := L.take p) (l₂ := L.drop (p + 1))).symm
    rw [h1] at this
    exact this
  rw [drop_at hi, List.cons_append] at h
  have h3 := h2.trans h
  rw [e] at h3
  exact (List.perm_cons _).1 h3
theorem b_sorted {l b rest : List Cd} (h : b ++ rest = orderF l) (hs : (orderF l).Pairwise leC) (i : Nat) (hi : i < b.length) : 0 < i → betC (b.getD i Cd.zero) (b.getD (i - 1) Cd.zero) = false := by
  intro h0
  rw [← h, List.pairwise_append] at hs
  have := List.pairwise_iff_getElem.1 hs.1 (i - 1) i (by omega) hi (by omega)
  rw [List.getD_eq_getElem?_getD, List.getElem?_eq_getElem hi, List.getD_eq_getElem?_getD, List.getElem?_eq_getElem (show i - 1 < b.length by omega)]
  exact this
theorem L_len {l b rest L : List Cd} {i : Nat} (h : L.Perm (b.drop i ++ rest)) (h2 : b ++ rest = orderF l) (h3 : (orderF l).length = l.length) : L.length ≤ l.length ∧ (i < b.length → 0 < L.length) := by
  have e1 := h.length_eq
  rw [List.length_append, List.length_drop] at e1
  rw [← h2, List.length_append] at h3
  exact ⟨by omega, fun hi => by omega⟩

/-- What the search for x in the first j has found. -/
def AtOk (L : List Cd) (x : Cd) (j : Nat) (t : Int) : Prop := (t = -1 ∧ ∀ p, p < j → L.getD p Cd.zero ≠ x) ∨ ∃ p, p < j ∧ t = p ∧ L.getD p Cd.zero = x
theorem atok_skip {L : List Cd} {x : Cd} {j : Nat} {t : Int} (h : AtOk L x j t) (hn : L.getD j Cd.zero ≠ x) : AtOk L x (j + 1) t := by
  rcases h with ⟨h1, h2⟩ | ⟨p, h1, h2, h3⟩
  · refine .inl ⟨h1, fun p hp => ?_⟩
    by_cases e : p = j
    · subst e; exact hn
    · exact h2 p (by omega)
  · exact .inr ⟨p, by omega, h2, h3⟩
theorem atok_end {L : List Cd} {x : Cd} {t : Int} (h : AtOk L x L.length t) (hx : x ∈ L) : ∃ p : Nat, p < L.length ∧ t = p ∧ L.getD p Cd.zero = x := by
  rcases h with ⟨_, h2⟩ | h
  · obtain ⟨p, hp, e⟩ := List.getElem_of_mem hx
    refine absurd ?_ (h2 p hp)
    rw [List.getD_eq_getElem?_getD, List.getElem?_eq_getElem hp]
    exact e
  · exact h
theorem own_cap {w : World} {base g c : Nat} {L : List Cd} (h : w.ownsRow base 35 4 (.slice (some ⟨g, 0, none⟩) L.length c) L.length (flatC L)) : L.length ≤ c := by
  rcases h.2 with ⟨h1, _⟩ | ⟨g', cap', cur, h1, _, _, h2, _⟩
  · simp at h1
  · simp at h1; obtain ⟨_, rfl⟩ := h1; exact h2
theorem own_take {w : World} {base g c p : Nat} {L : List Cd} (h : w.ownsRow base 35 4 (.slice (some ⟨g, 0, none⟩) L.length c) L.length (flatC L)) (hp : p ≤ L.length) : w.ownsRow base 35 4 (.slice (some ⟨g, 0, none⟩) p c) p (flatC (L.take p)) := by
  refine ⟨by rw [flatC_length, List.length_take, Nat.min_eq_left hp], ?_⟩
  rcases h.2 with ⟨h1, _⟩ | ⟨g', cap', cur, h1, h2, h3, h4, h5, h6, h7⟩
  · simp at h1
  · simp at h1
    obtain ⟨rfl, rfl⟩ := h1
    exact .inr ⟨g, c, cur, rfl, h2, h3, by omega, h5, h6, by rw [flatC_take, ← h7, List.take_take, Nat.min_eq_left (by omega)]⟩
theorem own_drop {w : World} {base g c : Nat} {L : List Cd} (h : w.ownsRow base 35 4 (.slice (some ⟨g, 0, none⟩) L.length c) L.length (flatC L)) (n : Nat) : CdsAt w (some ⟨g, n * 4, none⟩) (L.drop n) := by
  have := (own_cds h rfl).drop n
  rw [Nat.zero_add] at this
  exact this
/-- Nobody of the rest is better than one of the best. -/
theorem none_better {l b rest L : List Cd} (h : b ++ rest = orderF l) (hs : (orderF l).Pairwise leC) (hp : L.Perm rest) (j m : Nat) (hj : j < L.length) (hm : m < b.length) : betC (L.getD j Cd.zero) (b.getD m Cd.zero) = false := by
  rw [← h, List.pairwise_append] at hs
  exact hs.2.2 _ (getD_mem hm) _ (hp.mem_iff.1 (getD_mem hj))
theorem bet_is2 (x y : Cd) (b : Bool) (w : World) (hx : Gd x) (hy : Gd y) (h : betC x y = b) :
    Calls Try.prog 16 #[.agg #[.int .i64 x.seg, .int .i64 x.live, .int .i64 x.cap, .int .i64 x.age], .agg #[.int .i64 y.seg, .int .i64 y.live, .int .i64 y.cap, .int .i64 y.age]] w fun e w' =>
      e = .returned (.bool b) ∧ Only (fun _ => False) w w' := by
  rw [← h]
  exact better_any x y w hx hy

set_option maxRecDepth 100000 in
set_option maxHeartbeats 2000000 in
theorem none_walk (a : Option Addr) (len cap : Nat) (k : Int) (w : World) (l : List Cd) (h : InAt w a len cap l) :
    Calls Try.prog 5 #[.slice a len cap, .int .i64 k] w fun e w' => e = .returned (.bool true) ∧ Only (fun _ => False) w w' := by
  obtain ⟨hlen, hl, hcap, hlc, hC, hS⟩ := h
  subst hlen
  unfold maxLen at hl
  by_cases hbig : 100 < l.length
  · clear hC hS
    go_enter Try.func5, Try.ntmps5
    go_wp2_with fail
    refine (awake_any _).mono ?_
    rintro e w1 ⟨rfl, o1⟩
    go_wp2_with fail
    refine (awake_any _).mono ?_
    rintro e w2 ⟨rfl, o2⟩
    go_wp2_with fail
    go_ret
    exact ⟨rfl, o1.trans o2⟩
  · have h600 : l.length ≤ 100 := by omega
    have HC := Lib.hid hC
    have HS := Lib.hid hS
    have hunt := fun (a2 : Option Addr) (c2 : Nat) (w' : World) (h : CdsAt w' a2 l) => best_any a2 c2 l k w' (by unfold maxLen; omega) h
    have HU := Lib.hid (bestC_eq l k)
    rw [HU.out] at hunt
    obtain ⟨i0, hi0, hz0, hz1, hz2⟩ := info_parts info35
    have HI := Lib.hid (And.intro hi0 (And.intro hz0 (And.intro hz1 hz2)))
    clear hC hS hbig HU hi0 hz0 hz1 hz2
    have HUnt := Lib.hid hunt
    clear hunt
    go_enter Try.func5, Try.ntmps5
    go_wp2_with fail
    refine (awake_any _).mono ?_
    rintro e w1 ⟨rfl, o1⟩
    have hwc := World.ownsRow_made (e := 35) (size := 4) (base := w1.heap.size) w1 #[] 0 (Nat.le_refl _) (Nat.zero_le _) rfl
    have HM := Lib.hid hwc
    have hx1 := fun w2 (hg2 : (w1.alloc (.cells #[] 35)).grownBy w2 (some w1.heap.size)) => (((Only.refl (fun _ => False) w1).alloc (.cells #[] 35)).grown hg2 (fun i hi => by injection hi with hi; omega))
    have HX1 := Lib.hid hx1
    have hsrc : Src (w1.alloc (.cells #[] 35)) a l.length cap (flatC l) := HS.out.onlyF (o1.alloc _)
    have HSrc := Lib.hid hsrc
    clear hwc hx1 hsrc
    go_wp2_with (at_builtin; refine wpList_append_src rfl (.tmp 25) (.tmp 26) 22 35 rfl i0 _ Try.underlying22 HI.out.1 HI.out.2.1 HI.out.2.2.1 HI.out.2.2.2 rfl w1.heap.size _ 0 [] rfl HM.out a l.length cap (flatC l) rfl HSrc.out (flatC_one _) (by unfold maxLen; omega) (by omega) (by simp) l.length (by omega) (flatC l) rfl ?_; intro A1 c1 w2 hown2 hg2; have o2 := HX1.out w2 hg2)
    refine (HUnt.out _ _ _ (own_cds2 hown2 rfl)).mono ?_
    rintro e w3 ⟨v, rfl, hv, o3⟩
    obtain ⟨a3, c3, rfl, h3, -⟩ := hv.cds
    have o13 := (o1.trans o2).trans o3
    have H3 := Lib.hid h3
    clear hown2 hg2 hv h3 o1 o2 o3
    rcases rbest_two l k with hr | ⟨hc, hk0, hr⟩
    · have HR := Lib.hid hr
      clear hr H3
      rw [HR.out]
      go_wp2_with fail
      go_ret
      exact ⟨rfl, o13⟩
    · have hgd : ∀ x ∈ orderF l, Gd x := fun x hx => gd_chk hc x ((mem_orderF _ _).1 hx)
      have hso := orderF_sorted (gd_chk hc)
      have hpe := orderF_perm l
      have hol := len_order l
      have HR := Lib.hid hr
      rw [HR.out]
      have H3' : Hid (CdsAt w3 a3 ((orderF l).take k.toNat)) := by
        have := H3.out
        rw [HR.out] at this
        exact this
      clear H3 hc hr HR
      have hsp : (orderF l).take k.toNat ++ (orderF l).drop k.toNat = orderF l := List.take_append_drop _ _
      have hbl : ((orderF l).take k.toNat).length = min k.toNat l.length := by rw [List.length_take, hol]
      generalize (orderF l).take k.toNat = b at *
      generalize (orderF l).drop k.toNat = rest at *
      have HSP := Lib.hid (And.intro hsp (And.intro hgd (And.intro hso (And.intro hpe hol))))
      clear hsp hgd hso hpe hol
      have hb100 : b.length ≤ 100 := by omega
      have HBL := Lib.hid hbl
      clear hbl
      simp only
      have hsrc4 := Lib.hid ((HS.out.onlyF o13).onlyF ((Only.refl (fun _ => False) w3).alloc (.cells #[] 35)))
      have hwc4 := World.ownsRow_made (e := 35) (size := 4) (base := w3.heap.size) w3 #[] 0 (Nat.le_refl _) (Nat.zero_le _) rfl
      have HM4 := Lib.hid hwc4
      have hx4 := fun w4 (hg4 : (w3.alloc (.cells #[] 35)).grownBy w4 (some w3.heap.size)) => (((Only.refl (fun _ => False) w3).alloc (.cells #[] 35)).grown hg4 (fun i hi => by injection hi with hi; omega))
      have HX4 := Lib.hid hx4
      clear hwc4 hx4
      have hmm : (k < (l.length : Int) ∧ ((b.length : Int) != k) = false) ∨ ((l.length : Int) ≤ k ∧ ((b.length : Int) != (l.length : Int)) = false) := by
        have hq := HBL.out
        by_cases hkl : k < (l.length : Int)
        · refine .inl ⟨hkl, ?_⟩
          simp only [bne_eq_false_iff_eq]
          omega
        · refine .inr ⟨by omega, ?_⟩
          simp only [bne_eq_false_iff_eq]
          omega
      go_upto_region 6 with fail
      go_cut [43] from 37 to 43 (fun v43 wx => v43 = .bool false ∧ w3 = wx)
      case first =>
        rcases hmm with ⟨hkl, hbk⟩ | ⟨hkl, hbk⟩
        all_goals
          go_wp2_with fail
          go_meet
          exact ⟨rfl, rfl⟩
      case rest =>
      obtain ⟨rfl, rfl⟩ := hcut
      clear hmm
      go_wp2_with (at_builtin; refine wpList_append_src rfl (.tmp 44) (.tmp 45) 22 35 rfl i0 _ Try.underlying22 HI.out.1 HI.out.2.1 HI.out.2.2.1 HI.out.2.2.2 rfl w3.heap.size _ 0 [] rfl HM4.out a l.length cap (flatC l) rfl hsrc4.out (flatC_one _) (by unfold maxLen; omega) (by omega) (by simp) l.length (by omega) (flatC l) rfl ?_; intro A4 c4 w4 hown4 hg4; have o4 := HX4.out w4 hg4)
      have hown5 : w4.ownsRow w3.heap.size 35 4 (.slice A4 l.length c4) l.length (flatC l) := hown4
      clear hown4 hg4
      have hpe0 : Hid (l.Perm (b.drop 0 ++ rest)) := by
        show l.Perm (b.drop 0 ++ rest)
        rw [List.drop_zero, HSP.out.1]
        exact HSP.out.2.2.2.1.symm
      go_loopw [7, 49] (fun v iv wr => ∃ (i : Nat) (L : List Cd), i ≤ b.length ∧ iv = .int .i64 i ∧ wr.ownsRow w3.heap.size 35 4 v L.length (flatC L) ∧ Hid (L.Perm (b.drop i ++ rest)) ∧ Only (fun _ => False) w3 wr) (fun _ iv _ => b.length - (intOf iv).toNat)
      case atStart => exact ⟨0, l, Nat.zero_le _, rfl, hown5, hpe0, o4⟩
      case round =>
        obtain ⟨i, L, hi, rfl, hO, hP, o⟩ := hrel
        by_cases hlt : i < b.length
        · have hlt1 : (i : Int) < (b.length : Int) := by omega
          obtain ⟨bb, boff, ha, z0, z1, z2, z3⟩ := (H3'.out.onlyF o) i hlt
          subst ha
          have hxg := b_gd HSP.out.1 HSP.out.2.1 i hlt
          have hxm := L_mem hP.out hlt
          have hPn := L_next hP.out hlt
          have hbb := b_sorted HSP.out.1 HSP.out.2.2.1 i hlt
          have hLl := L_len hP.out HSP.out.1 HSP.out.2.2.2.2
          generalize hx : b.getD i Cd.zero = x at *
          have HX := Lib.hid (And.intro hx (And.intro hxg (And.intro hxm (And.intro hPn hbb))))
          clear hx hxg hxm hPn hbb
          obtain ⟨g, gc, rfl, -, -⟩ := hO.form (hLl.2 hlt)
          have HO := Lib.hid hO
          clear hO
          have hb3 := Lib.hid (H3'.out.onlyF (o.alloc (.cells #[.int .i64 x.seg, .int .i64 x.live, .int .i64 x.cap, .int .i64 x.age] 35)))
          go_upto_region 12 with fail
          have hBox := heap_alloc_new wr (.cells #[.int .i64 x.seg, .int .i64 x.live, .int .i64 x.cap, .int .i64 x.age] 35)
          have oW := o.alloc (.cells #[.int .i64 x.seg, .int .i64 x.live, .int .i64 x.cap, .int .i64 x.age] 35)
          have HOW := Lib.hid (HO.out.alloc (.cells #[.int .i64 x.seg, .int .i64 x.live, .int .i64 x.cap, .int .i64 x.age] 35))
          clear HO o z0 z1 z2 z3
          generalize wr.alloc (.cells #[.int .i64 x.seg, .int .i64 x.live, .int .i64 x.cap, .int .i64 x.age] 35) = W at *
          generalize wr.heap.size = q at *
          have HBox := Lib.hid hBox
          clear hBox
          go_cut [64] from 54 to 64 (fun v64 wx => v64 = .bool false ∧ Only (fun _ => False) W wx)
          case first =>
            obtain ⟨x0, x1, x2, x3⟩ := four HBox.out
            by_cases hi0 : i = 0
            · subst hi0
              go_region
              all_goals
                go_wp2_with fail
                go_meet
                exact ⟨rfl, (Only.refl _ _).drew⟩
            · have hi1 : 0 < i := by omega
              have hgy := b_gd HSP.out.1 HSP.out.2.1 (i - 1) (by omega)
              have hbf := HX.out.2.2.2.2 hi1
              obtain ⟨y0, y1, y2, y3⟩ := cds_at (k := i - 1) hb3.out (by omega) rfl
              generalize hyy : b.getD (i - 1) Cd.zero = y at *
              have HY := Lib.hid (And.intro hyy hbf)
              clear hyy hbf hi0
              have hxg := HX.out.2.1
              have hq0 : W.heap[q]? = some (.cells #[.int .i64 x.seg, .int .i64 x.live, .int .i64 x.cap, .int .i64 x.age] 35) := HBox.out
              have HQ0 := Lib.hid hq0
              clear hq0
              have hq1 : (1 : Int) ≤ (i : Int) := by omega
              have hq2 : (i : Int) - 1 < (b.length : Int) := by omega
              have hq3 : IntKind.i64.wrap ((i : Int) - 1) = (i : Int) - 1 := IntWalk.i64_in _ (by omega)
              have hq4 : ((i : Int) - 1).toNat = i - 1 := by omega
              have hq5 : (0 : Int) ≤ (i : Int) - 1 := by omega
              have hq6 : (0 : Int) < (i : Int) := by omega
              have him : i - 1 < b.length := by omega
              go_region_held3 (fun w' => w'.cell? ⟨q, 0, none⟩ = some (.int .i64 x.seg) ∧ w'.cell? ⟨q, 1, none⟩ = some (.int .i64 x.live) ∧ w'.cell? ⟨q, 2, none⟩ = some (.int .i64 x.cap) ∧ w'.cell? ⟨q, 3, none⟩ = some (.int .i64 x.age) ∧ w'.cell? ⟨bb, boff + (i - 1) * 4, none⟩ = some (.int .i64 y.seg) ∧ w'.cell? ⟨bb, boff + (i - 1) * 4 + 1, none⟩ = some (.int .i64 y.live) ∧ w'.cell? ⟨bb, boff + (i - 1) * 4 + 2, none⟩ = some (.int .i64 y.cap) ∧ w'.cell? ⟨bb, boff + (i - 1) * 4 + 3, none⟩ = some (.int .i64 y.age)) (go_keep)
                ((go_at_call 16; refine (bet_is2 x y false _ hxg hgy HY.out.2).mono ?_; rintro e wX ⟨rfl, oX⟩; obtain ⟨x0, x1, x2, x3⟩ := four (Only.keep (w := W.drew) oX HQ0.out (fun h => h)); obtain ⟨y0, y1, y2, y3⟩ := cds_at (k := i - 1) (CdsAt.onlyF (w := W.drew) hb3.out oX) him HY.out.1))
              all_goals
                go_wp2_with fail
                go_meet
                exact ⟨rfl, ((Only.refl _ W).drew).trans (by assumption)⟩
          case rest =>
            obtain ⟨rfl, ox⟩ := hcut
            go_wp2_with fail
            go_loopw [10, 67] (fun tv jv wq => ∃ (j : Nat) (t : Int), j ≤ L.length ∧ jv = .int .i64 j ∧ tv = .int .i64 t ∧ AtOk L x j t ∧ Only (fun _ => False) W wq) (fun _ jv _ => L.length - (intOf jv).toNat)
            case atStart => exact ⟨0, -1, Nat.zero_le _, rfl, rfl, .inl ⟨rfl, fun p hp => absurd hp (Nat.not_lt_zero _)⟩, ox⟩
            case round =>
              obtain ⟨j, t, hj, rfl, rfl, hA, oq⟩ := hrel
              by_cases hjt : j < L.length
              · have hjt1 : (j : Int) < (L.length : Int) := by omega
                obtain ⟨y0, y1, y2, y3⟩ := cds_at (k := j) (own_cds (own_only HOW.out oq (fun _ _ z => z)) rfl) hjt rfl
                obtain ⟨x0, x1, x2, x3⟩ := four (oq.keep HBox.out (fun h => h))
                rw [Nat.zero_add] at y0 y1 y2 y3
                generalize hyy : L.getD j Cd.zero = y at *
                have HYy := Lib.hid hyy
                clear hyy
                rcases cd_cases y x with hq | hc | ⟨c1, hc⟩ | ⟨c1, c2, hc⟩ | ⟨c1, c2, c3, hc⟩
                · subst hq
                  have hA2 : Hid (AtOk L y (j + 1) (j : Int)) := .inr ⟨j, by omega, rfl, HYy.out⟩
                  clear hA
                  go_wp2_with fail
                  go_region
                  go_wp2_with fail
                  go_roundw
                  case rel => exact ⟨j + 1, (j : Int), by omega, by go_num, rfl, hA2.out, oq.drew⟩
                  case measure => simp [intOf]; omega
                all_goals
                  have hA2 : Hid (AtOk L x (j + 1) t) := atok_skip hA (fun e => by
                    have := HYy.out.symm.trans e
                    subst this
                    exact hc rfl)
                  clear hA
                  go_wp2_with fail
                  go_region
                  go_wp2_with fail
                  go_roundw
                  case rel => exact ⟨j + 1, t, by omega, by go_num, rfl, hA2.out, oq.drew⟩
                  case measure => simp [intOf]; omega
              · obtain rfl : j = L.length := by omega
                obtain ⟨p, hp, rfl, hpx⟩ := atok_end hA HX.out.2.2.1
                have hPn := Lib.hid (HX.out.2.2.2.1 p hp hpx)
                have hgc := own_cap HOW.out
                have hl100 : L.length ≤ 100 := by omega
                have HOq := Lib.hid (own_only HOW.out oq (fun _ _ z => z))
                have hs1 : IntKind.i64.wrap ((p : Int) + 1) = (p : Int) + 1 := IntWalk.i64_in _ (by omega)
                have hs2 : (0 : Int) ≤ (p : Int) + 1 := by omega
                have hs3 : ((p : Int) + 1).toNat = p + 1 := by omega
                have hs4 : (p : Int) + 1 ≤ (L.length : Int) := by omega
                have hs5 : p + 1 ≤ L.length := by omega
                have hs6 : (p : Int) ≤ (gc : Int) := by omega
                have hs7 : p ≤ gc := by omega
                have hs8 : (p : Int) + 1 ≤ (gc : Int) := by omega
                have hs9 : p + 1 ≤ gc := by omega
                have hp0 : (0 : Int) ≤ (p : Int) := by omega
                clear hA hpx
                have hT1 : wr.drew.ownsRow w3.heap.size 35 4 (.slice (some ⟨g, 0, none⟩) p gc) p (flatC (L.take p)) := own_take HOq.out (by omega)
                have HT1 := Lib.hid hT1
                have hT2 : CdsAt wr.drew (some ⟨g, (p + 1) * 4, none⟩) (L.drop (p + 1)) := own_drop HOq.out (p + 1)
                have HT2 := Lib.hid hT2
                have hdl : (L.drop (p + 1)).length = L.length - (p + 1) := by rw [List.length_drop]
                have HDl := Lib.hid hdl
                have hbs : w3.heap.size ≤ wr.drew.heap.size := Nat.le_trans oW.size oq.size
                have HBs := Lib.hid hbs
                have hnm : p + (L.length - (p + 1)) = (L.take p ++ L.drop (p + 1)).length := by simp; omega
                have HNm := Lib.hid hnm
                have hpm : p + (L.length - (p + 1)) ≤ 1000 := by omega
                clear hT1 hT2 hdl hbs hnm
                have hT3 : CdsAt wr.drew (some ⟨g, 0, none⟩) (L.drop (p + 1)) ∨ ¬ gc = p + 1 := by
                  by_cases e : gc = p + 1
                  · refine .inl ?_
                    rw [List.drop_eq_nil_of_le (by omega)]
                    exact CdsAt.nil _ _
                  · exact .inr e
                have HT3 := Lib.hid hT3
                clear hT3
                by_cases hgp : gc = p + 1
                · have hgpT : (gc = p + 1) = True := eq_true hgp
                  have HT4 := Lib.hid (HT3.out.resolve_right (fun h => h hgp))
                  clear hgp
                  go_wp2_with fail
                  go_region_held3 (fun _ => True) (trivial)
                    (((refine step_src rfl (.tmp 82) (.tmp 86) rfl i0 _ HI.out.1 HI.out.2.1 HI.out.2.2.1 HI.out.2.2.2 rfl w3.heap.size (.slice (some ⟨g, 0, none⟩) p gc) p (L.take p) (by rfl) HT1.out ⟨g, 0, none⟩ (L.length - (p + 1)) (gc - (p + 1)) (L.drop (p + 1)) (by rfl) HDl.out HT4.out hpm HBs.out _ rfl _ rfl ?_; intro A5 c5 w5 hown5 hg5)))
                  have o5 := ((oW.trans oq).drew).grown hg5 (fun z hz => (HT1.out.lt z hz).1)
                  have hownL : w5.ownsRow w3.heap.size 35 4 (.slice A5 (p + (L.length - (p + 1))) c5) (L.take p ++ L.drop (p + 1)).length (flatC (L.take p ++ L.drop (p + 1))) := by rw [← HNm.out]; exact hown5
                  have HOL := Lib.hid hownL
                  clear hown5 hownL hg5
                  go_wp2_with fail
                  go_roundw
                  case rel => exact ⟨i + 1, L.take p ++ L.drop (p + 1), by omega, by go_num, HOL.out, hPn.out, o5⟩
                  case measure => simp [intOf]; omega
                · go_wp2_with fail
                  go_region_held3 (fun _ => True) (trivial)
                    (((refine step_src rfl (.tmp 82) (.tmp 86) rfl i0 _ HI.out.1 HI.out.2.1 HI.out.2.2.1 HI.out.2.2.2 rfl w3.heap.size (.slice (some ⟨g, 0, none⟩) p gc) p (L.take p) (by rfl) HT1.out ⟨g, (p + 1) * 4, none⟩ (L.length - (p + 1)) (gc - (p + 1)) (L.drop (p + 1)) (by rfl) HDl.out HT2.out hpm HBs.out _ rfl _ rfl ?_; intro A5 c5 w5 hown5 hg5)))
                  have o5 := ((oW.trans oq).drew).grown hg5 (fun z hz => (HT1.out.lt z hz).1)
                  have hownL : w5.ownsRow w3.heap.size 35 4 (.slice A5 (p + (L.length - (p + 1))) c5) (L.take p ++ L.drop (p + 1)).length (flatC (L.take p ++ L.drop (p + 1))) := by rw [← HNm.out]; exact hown5
                  have HOL := Lib.hid hownL
                  clear hown5 hownL hg5
                  go_wp2_with fail
                  go_roundw
                  case rel => exact ⟨i + 1, L.take p ++ L.drop (p + 1), by omega, by go_num, HOL.out, hPn.out, o5⟩
                  case measure => simp [intOf]; omega
        · obtain rfl : i = b.length := by omega
          have hPr : Hid (L.Perm rest) := by
            have := hP.out
            rw [List.drop_eq_nil_of_le (Nat.le_refl _), List.nil_append] at this
            exact this
          obtain ⟨A, c, rfl⟩ := own_slice hO
          have hLc := own_cds2 hO rfl
          have HLc := Lib.hid hLc
          have hl100 : L.length ≤ 100 := by have := L_len hP.out HSP.out.1 HSP.out.2.2.2.2; omega
          have hno : ∀ j m, j < L.length → m < b.length → betC (L.getD j Cd.zero) (b.getD m Cd.zero) = false := fun j m hj hm => none_better HSP.out.1 HSP.out.2.2.1 hPr.out j m hj hm
          have HNo := Lib.hid hno
          have HGL : Hid (∀ j, j < L.length → Gd (L.getD j Cd.zero)) := fun j hj => HSP.out.2.1 _ (by rw [← HSP.out.1]; exact List.mem_append.2 (.inr (hPr.out.mem_iff.1 (getD_mem hj))))
          clear hO hLc hno hP
          rename World => wr1
          go_wp2_with fail
          go_loopw [91] (fun jv wr => ∃ (j : Nat), j ≤ L.length ∧ jv = .int .i64 j ∧ Only (fun _ => False) wr1 wr) (fun jv _ => L.length - (intOf jv).toNat)
          case atStart => exact ⟨0, Nat.zero_le _, rfl, Only.refl _ _⟩
          case round =>
            obtain ⟨j, hj, rfl, oj⟩ := hrel
            by_cases hjt : j < L.length
            · have hjt1 : (j : Int) < (L.length : Int) := by omega
              obtain ⟨g, off, ha, y0, y1, y2, y3⟩ := (HLc.out.onlyF oj) j hjt
              subst ha
              have hgy := HGL.out j hjt
              have hyn := fun m hm => HNo.out j m hjt hm
              generalize L.getD j Cd.zero = y at *
              have HYn := Lib.hid hyn
              clear hyn
              rename World => wr2
              go_wp2_with fail
              have hBox := heap_alloc_new wr2 (.cells #[.int .i64 y.seg, .int .i64 y.live, .int .i64 y.cap, .int .i64 y.age] 35)
              have oj2 := oj.alloc (.cells #[.int .i64 y.seg, .int .i64 y.live, .int .i64 y.cap, .int .i64 y.age] 35)
              generalize wr2.alloc (.cells #[.int .i64 y.seg, .int .i64 y.live, .int .i64 y.cap, .int .i64 y.age] 35) = W2 at *
              generalize wr2.heap.size = q at *
              have HBox := Lib.hid hBox
              clear hBox y0 y1 y2 y3
              go_loopw [97] (fun mv wr => ∃ (m : Nat), m ≤ b.length ∧ mv = .int .i64 m ∧ Only (fun _ => False) W2 wr) (fun mv _ => b.length - (intOf mv).toNat)
              case atStart => exact ⟨0, Nat.zero_le _, rfl, Only.refl _ _⟩
              case round =>
                obtain ⟨m, hm, rfl, om⟩ := hrel
                by_cases hmt : m < b.length
                · have hmt1 : (m : Int) < (b.length : Int) := by omega
                  obtain ⟨g2, off2, ha2, z0, z1, z2, z3⟩ := (H3'.out.onlyF ((o.trans oj2).trans om)) m hmt
                  subst ha2
                  have hgz := b_gd HSP.out.1 HSP.out.2.1 m hmt
                  have hbf := HYn.out m hmt
                  obtain ⟨x0, x1, x2, x3⟩ := four (om.keep HBox.out (fun h => h))
                  have hqlt : q < wr.heap.size := World.block_lt_of_cell? _ _ x0
                  generalize b.getD m Cd.zero = z at *
                  have hC := Lib.hid (bet_is2 y z false · hgy hgz hbf)
                  clear hbf
                  go_wp2_with fail
                  refine (hC.out _).mono ?_
                  rintro e w9 ⟨rfl, o9⟩
                  go_wp2_with fail
                  go_roundw
                  case rel => exact ⟨m + 1, by omega, by go_num, (om.alloc _).trans o9⟩
                  case measure => simp [intOf]; omega
                · go_wp2_with fail
                  go_roundw
                  case rel => exact ⟨j + 1, by omega, by go_num, oj2.trans om⟩
                  case measure => simp [intOf]; omega
            · go_wp2_with fail
              go_ret
              exact ⟨rfl, (o13.trans o).trans oj⟩
end Go.Proofs.Ytojhleijpcghoaa
