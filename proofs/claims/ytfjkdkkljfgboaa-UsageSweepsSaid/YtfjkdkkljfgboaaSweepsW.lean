/-
  The walk of the law UsageSweeps: it answers true and writes nothing that was there. Condition: the argument's cells hold numbers.
-/
import Derived.Test.YtfjkdkkljfgboaaPlayL
import Derived.Test.YtfjkdkkljfgboaaSumsW
namespace Go.Proofs.Ytfjkdkkljfgboaa
open Go.RowKit
set_option linter.unusedVariables false

/-- Two tables side by side. -/
structure Side (w wr : World) (p c q d n : Nat) (S : St) : Prop where
  a : Tab wr p c S.L 8 S.hand
  b : Tab wr q d S.L 8 S.hand
  only : Only (fresh w.heap.size) w wr
  good : Good S 8 n

theorem sep_a {w w' : World} {p c q d : Nat} {L : List Inf} {z h : Int} (t : Tab w p c L z h) (o : Only (Two q d) w w') (n1 : p ≠ q ∧ p ≠ d ∧ c ≠ q ∧ c ≠ d) : Tab w' p c L z h :=
  t.only o (fun x => by rcases x with x | x <;> omega) (fun x => by rcases x with x | x <;> omega)

theorem swept_prefix (L : List Inf) (k n : Nat) (h : k ≤ n) : ∃ t, sweptTo L n = sweptTo L k ++ t := by
  induction n with
  | zero => exact ⟨[], by rw [show k = 0 from by omega]; simp⟩
  | succ n ih =>
    by_cases e : k = n + 1
    · exact ⟨[], by rw [e]; simp⟩
    · obtain ⟨t, ht⟩ := ih (by omega)
      by_cases hr : relOk (seg L n) = true
      · exact ⟨t ++ [(n : Int)], by rw [swept_yes L n hr, ht, List.append_assoc]⟩
      · exact ⟨t, by rw [swept_no L n (by simpa using hr), ht]⟩
/-- What Release finds, the list of Sweep names next. -/
theorem swept_next (L : List Inf) (k : Nat) (h : k < L.length) (hr : relOk (seg L k) = true) :
    (sweptTo L k).length < (sweptTo L L.length).length ∧ (sweptTo L L.length).getD (sweptTo L k).length 0 = k ∧ (sweptTo L (k + 1)).length = (sweptTo L k).length + 1 := by
  obtain ⟨t, ht⟩ := swept_prefix L (k + 1) L.length h
  rw [ht, swept_yes L k hr]
  refine ⟨by simp, ?_, by simp⟩
  rw [List.append_assoc]
  simp [List.getD]
theorem relOk_relS (s : Inf) : relOk (relS s) = false := by
  unfold relS
  split
  · rfl
  · rename_i h; simpa using h
theorem swept_again (L : List Inf) : sweptTo (L.map relS) (L.map relS).length = [] := by
  unfold sweptTo
  rw [List.map_eq_nil_iff, List.filter_eq_nil_iff]
  intro i hi
  rw [seg_map L i (by simpa using hi), relOk_relS]
  decide

set_option maxRecDepth 100000 in
set_option maxHeartbeats 4000000 in
theorem sweeps_walk (a0 : Int) (a : Option Addr) (len cap : Nat) (w : World) (hl : len ≤ maxLen) (hrows : IntRows w a len 3) :
    Calls Try.prog 6 #[.int .i64 a0, .slice a len cap] w fun e w' => e = .returned (.bool true) ∧ Only (fun _ => False) w w' := by
  unfold maxLen at hl
  obtain ⟨n, hn1, hn2, hseg⟩ : ∃ n : Nat, 1 ≤ n ∧ n ≤ 12 ∧ wrap64 (wrap64 ((IntKind.u64.wrap a0).tmod 12) + 1) = n := by
    obtain ⟨m, hm, e⟩ := u64_mod' a0 12 (by omega)
    refine ⟨m + 1, by omega, by omega, ?_⟩
    have e' : (IntKind.u64.wrap a0).tmod 12 = m := e
    rw [e', IntWalk.wrap64_in (m : Int) (by omega), IntWalk.wrap64_in _ (by omega)]; omega
  have HR := Lib.hid hrows
  clear hrows
  go_enter Try.func6, Try.ntmps6
  go_wp2_with fail
  refine (awake_any w).mono ?_
  rintro e w1 ⟨rfl, o1⟩
  go_wp2_with fail
  refine (new_tab n 8 w1 (by omega) (by omega) (by omega) (by omega)).mono ?_
  rintro e w2 ⟨rfl, t2, o2⟩
  go_wp2_with fail
  refine (new_tab n 8 w2 (by omega) (by omega) (by omega) (by omega)).mono ?_
  rintro e w3 ⟨rfl, t3, o3⟩
  have S3 : Side w w3 (w1.heap.size + 1) w1.heap.size (w2.heap.size + 1) w2.heap.size n ⟨List.replicate n Inf.zero, -1⟩ :=
    ⟨t2.onlyF o3, t3, (o1.mono fun _ _ h => h.elim).trans ((o2.trans o3).mono fun _ _ h => h.elim), good_new n 8 hn1 (by omega) (by omega) (by omega)⟩
  have hplt := t2.plt
  have hclt := t2.clt
  have z1 := o1.size
  have z2 := o2.size
  have hsep : w1.heap.size + 1 ≠ w2.heap.size + 1 ∧ w1.heap.size + 1 ≠ w2.heap.size ∧ w1.heap.size ≠ w2.heap.size + 1 ∧ w1.heap.size ≠ w2.heap.size := by omega
  have hpw : w.heap.size ≤ w1.heap.size + 1 := by omega
  have hcw : w.heap.size ≤ w1.heap.size := by omega
  have hqw : w.heap.size ≤ w2.heap.size + 1 := by omega
  have hdw : w.heap.size ≤ w2.heap.size := by omega
  clear hplt hclt z1 z2 t2 t3 o1 o2 o3
  generalize w1.heap.size + 1 = p at *
  generalize w1.heap.size = c at *
  generalize w2.heap.size + 1 = q at *
  generalize w2.heap.size = d at *
  go_wp2_with fail
  go_loopw [9] (fun i wr => ∃ (k : Nat) (S : St), k ≤ 60 ∧ k ≤ len ∧ i = .int .i64 k ∧ Side w wr p c q d n S) (fun i _ => 60 - (intOf i).toNat)
  case atStart => exact ⟨0, _, Nat.zero_le _, Nat.zero_le _, rfl, S3⟩
  case round =>
    clear S3
    obtain ⟨k, S, hk1, hk2, rfl, D⟩ := hrel
    by_cases hlt : k < len ∧ k < 60
    · obtain ⟨hlt1, hlt2⟩ := hlt
      obtain ⟨b, off, ha, f, hf⟩ := (HR.out.later (by omega) D.only (fun k hk h => absurd hk (Nat.not_lt.2 h))) k hlt1
      have hbw : b < w.heap.size := by
        obtain ⟨b', off', ha', f', hf'⟩ := HR.out k hlt1
        have := World.block_lt_of_cell? _ _ (hf' 0 (by omega))
        rw [ha] at ha'
        simp at ha'
        obtain ⟨rfl, _⟩ := ha'
        exact this
      subst ha
      have c0 : wr.cell? ⟨b, off + k * 3, none⟩ = some (.int .i64 (f 0)) := hf 0 (by omega)
      have c1 : wr.cell? ⟨b, off + k * 3 + 1, none⟩ = some (.int .i64 (f 1)) := hf 1 (by omega)
      have c2 : wr.cell? ⟨b, off + k * 3 + 2, none⟩ = some (.int .i64 (f 2)) := hf 2 (by omega)
      clear hf
      generalize f 0 = x0 at c0
      generalize f 1 = x1 at c1
      generalize f 2 = x2 at c2
      have hP := play_any x0 x1 x2 D.a D.good
      go_wp2_with fail
      refine hP.mono ?_
      rintro e w4 ⟨rfl, t4, o4⟩
      clear hP
      have b4 := sep_a D.b o4 (by omega)
      have oo := D.only.fresh o4 hpw hcw
      have hbs : b < wr.heap.size := World.block_lt_of_cell? _ _ c0
      have d0 := (World.cell?_of_block (a := ⟨b, off + k * 3, none⟩) (o4.block b hbs (fun h => by rcases h with h | h <;> omega))).trans c0
      have d1 := (World.cell?_of_block (a := ⟨b, off + k * 3 + 1, none⟩) (o4.block b hbs (fun h => by rcases h with h | h <;> omega))).trans c1
      have d2 := (World.cell?_of_block (a := ⟨b, off + k * 3 + 2, none⟩) (o4.block b hbs (fun h => by rcases h with h | h <;> omega))).trans c2
      clear c0 c1 c2
      have hP := play_any x0 x1 x2 b4 D.good
      go_wp2_with fail
      refine hP.mono ?_
      rintro e w5 ⟨rfl, t5, o5⟩
      clear hP d0 d1 d2
      have D5 : Side w w5 p c q d n (playS 8 x0 x1 x2 S) := ⟨sep_a t4 o5 hsep, t5, oo.fresh o5 hqw hdw, good_play D.good x0 x1 x2⟩
      go_wp2_with fail
      go_roundw
      case rel => exact ⟨k + 1, _, by omega, by omega, by go_num, D5⟩
      case measure => simp [intOf]; omega
    · clear HR
      obtain ⟨L, hand⟩ := S
      have hLn : L.length = n := D.good.len
      have hL512 : L.length ≤ 512 := D.good.inv.len
      have hS := sweep_any D.a hL512
      have hDb := D.b
      have hDo := D.only
      simp only at hDb
      clear D
      go_wp2_with fail
      all_goals
        refine hS.mono ?_
        rintro e w4 ⟨v, rfl, hIn, t4, o4⟩
        obtain ⟨al, rfl, hel⟩ := hIn.open_
        have b4 := sep_a hDb o4 (by omega)
        have oo := hDo.fresh o4 hpw hcw
        have hlen := len_swept L L.length
        have hbq := hDb.plt
        have hbd := hDb.clt
        have HEL := Lib.hid hel
        clear hS hIn hel
        generalize hll : (sweptTo L L.length).length = ll at HEL hlen ⊢
        have HLL := Lib.hid hll
        clear hll
        go_wp2_with fail
        go_loopw [12, 11] (fun i kk wx => ∃ s : Nat, s ≤ n ∧ i = .int .i64 s ∧ kk = .int .i64 (sweptTo L s).length ∧ Tab wx q d (sweepTo L s) 8 hand ∧ Only (Two q d) w4 wx) (fun i _ _ => n - (intOf i).toNat)
        case atStart => exact ⟨0, by omega, rfl, rfl, by rw [sweepTo_zero]; exact b4, Only.refl _ _⟩
        case round =>
          clear b4
          obtain ⟨s, hs, rfl, rfl, bx, ox⟩ := hrel
          have hkl := len_swept L s
          by_cases hlt : s < n
          · have hR := release_any s bx (by rw [len_sweepTo]; omega)
            rw [seg_sweepTo L s (by omega), sweepTo_succ L s (by omega)] at hR
            by_cases hok : relOk (seg L s) = true
            · have hcode : relCode (seg L s) = 0 := (relCode_ok _).2 hok
              rw [hcode] at hR
              obtain ⟨n1, n2, n3⟩ := swept_next L s (by omega) hok
              rw [HLL.out] at n1
              obtain ⟨gl, hal, hgl, hcl⟩ := HEL.out _ n1
              subst hal
              rw [n2] at hcl
              clear hok hcode n2
              have N3 := Lib.hid n3
              clear n3
              generalize (sweptTo L s).length = j at *
              go_wp2_with fail
              refine hR.mono ?_
              rintro e w5 ⟨rfl, t5, o5⟩
              clear hR
              have ox5 := ox.trans o5
              have hc5 := (World.cell?_of_block (a := ⟨gl, j, none⟩) (ox5.block gl (World.block_lt_of_cell? _ _ hcl) (fun h => by rcases h with h | h <;> omega))).trans hcl
              clear hcl
              go_wp2_with fail
              go_roundw
              case rel => exact ⟨s + 1, by omega, by go_num, by rw [N3.out]; go_num, t5, ox5⟩
              case measure => simp [intOf]; omega
            · have hok' : relOk (seg L s) = false := by simpa using hok
              have hcode : (relCode (seg L s) == 0) = false := by
                rw [beq_eq_false_iff_ne]; exact fun e => hok ((relCode_ok _).1 e)
              have N3 := Lib.hid (swept_no L s hok')
              clear hok hok'
              go_wp2_with fail
              refine hR.mono ?_
              rintro e w5 ⟨rfl, t5, o5⟩
              clear hR
              go_wp2_with fail
              go_roundw
              case rel => exact ⟨s + 1, by omega, by go_num, by rw [N3.out], t5, ox.trans o5⟩
              case measure => simp [intOf]; omega
          · obtain rfl : s = n := by omega
            have e1 : sweepTo L s = L.map relS := by rw [← hLn]; exact sweepTo_all L
            have e2 : (sweptTo L s).length = ll := by rw [← hLn]; exact HLL.out
            rw [e1] at bx
            rw [e2] at hkl ⊢
            have ax := sep_a t4 ox hsep
            have ow := oo.fresh ox hqw hdw
            clear e1 e2 t4 oo ox HEL HLL
            go_wp2_with fail
            have hLm : (L.map relS).length = s := by rw [List.length_map]; exact hLn
            have hag := swept_again L
            have HAG := Lib.hid hag
            clear hag
            generalize L.map relS = M at *
            obtain ⟨wa, rfl⟩ : ∃ wa : World, wa = wr := ⟨_, rfl⟩
            go_loopw [13] (fun i wx => ∃ j : Nat, j ≤ s ∧ i = .int .i64 j ∧ Only (fun _ => False) wa wx) (fun i _ => s - (intOf i).toNat)
            case atStart => exact ⟨0, by omega, rfl, Only.refl _ _⟩
            case round =>
              obtain ⟨j, hj, rfl, oj⟩ := hrel
              have aj := ax.onlyF oj
              have bj := bx.onlyF oj
              by_cases hlt : j < s
              · have hG := get_ok j aj (by omega)
                go_wp2_with fail
                refine hG.mono ?_
                rintro e w6 ⟨rfl, o6⟩
                clear hG
                go_wp2_with fail
                have hGb := get_ok j ((bj.onlyF o6).alloc (.cells #[.int .i64 (seg M j).live, .int .i64 (seg M j).state, .int .i64 (seg M j).age] 38)) (by omega)
                have f0 : ∀ o : Obj, True := fun _ => trivial
                have o7 := (oj.trans o6).alloc (.cells #[.int .i64 (seg M j).live, .int .i64 (seg M j).state, .int .i64 (seg M j).age] 38)
                have g0 : (w6.alloc (.cells #[.int .i64 (seg M j).live, .int .i64 (seg M j).state, .int .i64 (seg M j).age] 38)).cell? ⟨w6.heap.size, 0, none⟩ = some (.int .i64 (seg M j).live) := by simp
                have g1 : (w6.alloc (.cells #[.int .i64 (seg M j).live, .int .i64 (seg M j).state, .int .i64 (seg M j).age] 38)).cell? ⟨w6.heap.size, 1, none⟩ = some (.int .i64 (seg M j).state) := by simp
                have g2 : (w6.alloc (.cells #[.int .i64 (seg M j).live, .int .i64 (seg M j).state, .int .i64 (seg M j).age] 38)).cell? ⟨w6.heap.size, 2, none⟩ = some (.int .i64 (seg M j).age) := by simp
                clear f0
                refine hGb.mono ?_
                rintro e w8 ⟨rfl, o8⟩
                clear hGb
                have hlt6 : w6.heap.size < (w6.alloc (.cells #[.int .i64 (seg M j).live, .int .i64 (seg M j).state, .int .i64 (seg M j).age] 38)).heap.size := by simp
                have e0 := fun o => cell_alloc_old w8 o _ _ _ ((World.cell?_of_block (a := ⟨w6.heap.size, 0, none⟩) (o8.block w6.heap.size hlt6 (fun h => h))).trans g0)
                have e1 := fun o => cell_alloc_old w8 o _ _ _ ((World.cell?_of_block (a := ⟨w6.heap.size, 1, none⟩) (o8.block w6.heap.size hlt6 (fun h => h))).trans g1)
                have e2 := fun o => cell_alloc_old w8 o _ _ _ ((World.cell?_of_block (a := ⟨w6.heap.size, 2, none⟩) (o8.block w6.heap.size hlt6 (fun h => h))).trans g2)
                have o9 := o7.trans o8
                clear g0 g1 g2 hlt6 o7 o8
                go_wp2_with fail
                go_roundw
                case rel => exact ⟨j + 1, by omega, by go_num, o9.alloc _⟩
                case measure => simp [intOf]; omega
              · have hS := sweep_any aj (by omega)
                rw [HAG.out] at hS
                go_wp2_with fail
                refine hS.mono ?_
                rintro e w6 ⟨v, rfl, hIn, t6, o6⟩
                obtain ⟨al2, rfl, _⟩ := hIn.open_
                clear hS hIn HAG
                simp only [List.length_nil]
                go_wp2_with fail
                go_ret
                refine ⟨rfl, (ow.trans ((oj.mono fun _ _ h => h.elim).trans (o6.mono fun x _ h => ?_))).mono fun k hk h => absurd hk (Nat.not_lt.2 h)⟩
                rcases h with rfl | rfl <;> assumption
end Go.Proofs.Ytfjkdkkljfgboaa
