/-
  The walk of the law UsageSums: it answers true and writes nothing that was there. Condition: the argument's cells hold numbers.
-/
import Derived.Test.YtfjkdkkljfgboaaAwake
import Derived.Test.YtfjkdkkljfgboaaCnt
import Derived.Test.YtfjkdkkljfgboaaGet
namespace Go.Proofs.Ytfjkdkkljfgboaa
open Go.RowKit
set_option linter.unusedVariables false

theorem u64_nonneg' (a : Int) : 0 ≤ IntKind.u64.wrap a := by
  simp [IntKind.wrap, IntKind.bits, IntKind.signed]; omega
theorem u64_mod' (a : Int) (k : Nat) (hk : 0 < k) : ∃ m : Nat, m < k ∧ (IntKind.u64.wrap a).tmod k = m := by
  have h := u64_nonneg' a
  rw [Int.tmod_eq_emod_of_nonneg h]
  have h1 := Int.emod_nonneg (IntKind.u64.wrap a) (b := (k : Int)) (by omega)
  have h2 := Int.emod_lt_of_pos (IntKind.u64.wrap a) (b := (k : Int)) (by omega)
  exact ⟨((IntKind.u64.wrap a) % (k : Int)).toNat, by omega, by omega⟩

/-- A slice whose elements are rows of sz numbers: of each element there is its place and its numbers. -/
def IntRows (w : World) (a : Option Addr) (len sz : Nat) : Prop :=
  ∀ k, k < len → ∃ b off, a = some ⟨b, off, none⟩ ∧ ∃ f : Nat → Int, ∀ j, j < sz → w.cell? ⟨b, off + (k * sz + j), none⟩ = some (.int .i64 (f j))

theorem IntRows.later {w w' : World} {a : Option Addr} {len sz : Nat} (h : IntRows w a len sz) (hsz : 0 < sz) {S : Nat → Prop} (o : Only S w w') (hS : ∀ k, k < w.heap.size → ¬ S k) : IntRows w' a len sz := by
  intro k hk
  obtain ⟨b, off, ha, f, hf⟩ := h k hk
  refine ⟨b, off, ha, f, fun j hj => ?_⟩
  have hb : b < w.heap.size := World.block_lt_of_cell? _ _ (hf j hj)
  rw [World.cell?_of_block (w := w) (o.block b hb (hS b hb))]
  exact hf j hj

/-- The law's own array: the lives. -/
def LiveB (w : World) (q : Nat) (L : List Inf) : Prop := w.heap[q]? = some (.cells (L.map (fun s => Value.int .i64 s.live)).toArray 34)
theorem LiveB.cell {w : World} {q : Nat} {L : List Inf} (h : LiveB w q L) (i : Nat) (hi : i < L.length) : w.cell? ⟨q, i, none⟩ = some (.int .i64 (seg L i).live) := by
  unfold LiveB at h
  simp [World.cell?, h, seg, hi]
theorem LiveB.free {w : World} {q : Nat} {L : List Inf} (h : LiveB w q L) (i : Nat) : w.frozen? ⟨q, i, none⟩ = false := by
  unfold LiveB at h
  simp [World.frozen?, h]
theorem LiveB.lt {w : World} {q : Nat} {L : List Inf} (h : LiveB w q L) : q < w.heap.size := by
  rcases Nat.lt_or_ge q w.heap.size with h' | h'
  · exact h'
  · unfold LiveB at h; simp [Array.getElem?_eq_none h'] at h
theorem LiveB.of {w w' : World} {q : Nat} {L : List Inf} (h : LiveB w q L) (e : w'.heap[q]? = w.heap[q]?) : LiveB w' q L := e.trans h
theorem LiveB.set {w : World} {q : Nat} {L : List Inf} (h : LiveB w q L) (i : Nat) (hi : i < L.length) (x : Int) (s : Inf) (hs : s.live = x) : LiveB (w.setCell ⟨q, i, none⟩ (.int .i64 x)) q (L.set i s) := by
  unfold LiveB at h ⊢
  rw [heap_setCell_same _ _ _ _ _ _ _ h]
  simp [List.map_set, hs]
theorem LiveB.same {w : World} {q : Nat} {L : List Inf} (h : LiveB w q L) (L' : List Inf) (e : L'.map (fun s => s.live) = L.map (fun s => s.live)) : LiveB w q L' := by
  unfold LiveB at h ⊢
  rw [h]
  have : ∀ M : List Inf, M.map (fun s => Value.int .i64 s.live) = (M.map (fun s => s.live)).map (Value.int .i64) := fun M => by simp
  rw [this, this, e]

theorem Tab.neq_live {w : World} {p c q : Nat} {L M : List Inf} {size hand : Int} (t : Tab w p c L size hand) (h : LiveB w q M) : q ≠ p ∧ q ≠ c := by
  unfold LiveB at h
  constructor
  · rintro rfl; have := t.hp; rw [h] at this; simp at this
  · rintro rfl; have := t.hc; rw [h] at this; simp at this

theorem liveOk_set {L : List Inf} {size : Int} (h : LiveOk L size) (i : Nat) (hi : i < L.length) (s : Inf) (hs : 0 ≤ s.live ∧ s.live ≤ size) : LiveOk (L.set i s) size := by
  intro k hk
  rw [List.length_set] at hk
  by_cases e : i = k
  · subst e
    simpa [seg, hk] using hs
  · have := h k hk
    unfold seg at this ⊢
    rw [List.getD_eq_getElem?_getD, List.getElem?_set_ne e, ← List.getD_eq_getElem?_getD]
    exact this
theorem liveOk_rep (n : Nat) (size : Int) (hs : 0 ≤ size) : LiveOk (List.replicate n Inf.zero) size := by
  intro k hk
  have : seg (List.replicate n Inf.zero) k = Inf.zero := by
    unfold seg
    rw [List.getD_eq_getElem?_getD, List.getElem?_replicate]
    split <;> rfl
  rw [this]
  exact ⟨by decide, hs⟩
theorem nat_mod5 (x : Int) : ∃ m : Nat, m < 5 ∧ wrap64 ((IntKind.u64.wrap x).tmod 5) = m := by
  obtain ⟨m, hm, e⟩ := u64_mod' x 5 (by omega)
  have e' : (IntKind.u64.wrap x).tmod 5 = m := e
  exact ⟨m, hm, (congrArg wrap64 e').trans (IntWalk.wrap64_in (m : Int) (by omega))⟩

set_option maxRecDepth 100000 in
set_option maxHeartbeats 1000000 in
theorem sums_walk (a0 : Int) (a : Option Addr) (len cap : Nat) (w : World) (hl : len ≤ maxLen) (hrows : IntRows w a len 2) :
    Calls Try.prog 4 #[.int .i64 a0, .slice a len cap] w fun e w' => e = .returned (.bool true) ∧ Only (fun _ => False) w w' := by
  unfold maxLen at hl
  obtain ⟨z, hz1, hz2, hsz⟩ : ∃ n : Nat, 1 ≤ n ∧ n ≤ 64 ∧ wrap64 (wrap64 ((IntKind.u64.wrap a0).tmod 64) + 1) = n := by
    obtain ⟨m, hm, e⟩ := u64_mod' a0 64 (by omega)
    refine ⟨m + 1, by omega, by omega, ?_⟩
    have e' : (IntKind.u64.wrap a0).tmod 64 = m := e
    rw [e', IntWalk.wrap64_in (m : Int) (by omega), IntWalk.wrap64_in _ (by omega)]; omega
  have HR := Lib.hid hrows
  clear hrows
  go_enter Try.func4, Try.ntmps4
  go_wp2_with fail
  refine (awake_any w).mono ?_
  rintro e w1 ⟨rfl, o1⟩
  go_wp2_with fail
  refine (new_tab 5 z w1 (by omega) (by omega) (by omega) (by omega)).mono ?_
  rintro e w2 ⟨rfl, t2, o2⟩
  generalize hp : w1.heap.size + 1 = p at t2 ⊢
  generalize hc : w1.heap.size = c at t2 ⊢
  have o3 : Only (fresh w.heap.size) w w2 := (o1.mono fun _ _ h => h.elim).trans (o2.mono fun _ _ h => h.elim)
  have hpw : w.heap.size ≤ p := by have := o1.size; omega
  have hcw : w.heap.size ≤ c := by have := o1.size; omega
  clear hp hc o2
  go_wp2_with fail
  have t3 := t2.alloc (.cells #[.int .i64 0, .int .i64 0, .int .i64 0, .int .i64 0, .int .i64 0] 34)
  have b3 : LiveB (w2.alloc (.cells #[.int .i64 0, .int .i64 0, .int .i64 0, .int .i64 0, .int .i64 0] 34)) w2.heap.size (List.replicate 5 Inf.zero) := heap_alloc_new _ _
  have o4 := o3.alloc (.cells #[.int .i64 0, .int .i64 0, .int .i64 0, .int .i64 0, .int .i64 0] 34)
  have hqw : w.heap.size ≤ w2.heap.size := o3.size
  generalize w2.alloc (.cells #[.int .i64 0, .int .i64 0, .int .i64 0, .int .i64 0, .int .i64 0] 34) = w3 at t3 b3 o4 ⊢
  generalize w2.heap.size = q at b3 hqw ⊢
  clear t2 o3
  go_loopw [8] (fun i wr => ∃ (k : Nat) (L : List Inf), k ≤ 100 ∧ k ≤ len ∧ i = .int .i64 k ∧ L.length = 5 ∧ LiveOk L z ∧ Tab wr p c L z (-1) ∧ LiveB wr q L ∧ Only (fresh w.heap.size) w wr) (fun i _ => 100 - (intOf i).toNat)
  case atStart => exact ⟨0, _, Nat.zero_le _, Nat.zero_le _, rfl, rfl, liveOk_rep 5 z (by omega), t3, b3, o4⟩
  case round =>
    clear t3 b3 o4
    obtain ⟨k, L, hk1, hk2, rfl, hL5, hlv, t, bq, o⟩ := hrel
    by_cases hlt : k < len ∧ k < 100
    · obtain ⟨hlt1, hlt2⟩ := hlt
      obtain ⟨b, off, ha, f, hf⟩ := (HR.out.later (by omega) o (fun k hk h => absurd hk (Nat.not_lt.2 h))) k hlt1
      subst ha
      have c0 : wr.cell? ⟨b, off + k * 2, none⟩ = some (.int .i64 (f 0)) := hf 0 (by omega)
      have c1 : wr.cell? ⟨b, off + k * 2 + 1, none⟩ = some (.int .i64 (f 1)) := hf 1 (by omega)
      clear hf
      obtain ⟨m, hm, em⟩ := nat_mod5 (f 0)
      generalize f 1 = y at c1
      have hlm := bq.cell m (by omega)
      obtain ⟨hv1, hv2⟩ := hlv m (by omega)
      by_cases h1 : -(seg L m).live ≤ y
      · by_cases h2 : y ≤ z - (seg L m).live
        · go_wp2_with fail
          go_quiet (fail)
          have td := t.drewN nq
          have bd : LiveB (wr.drewN nq) q L := bq
          have od := o.drewN nq
          generalize wr.drewN nq = wd at td bd od ⊢
          clear hlm c0 c1 t bq o
          have hlm := bd.cell m (by omega)
          have hA := add_ok m y td (by omega) ⟨hv1, hv2⟩ (by omega) ⟨h1, h2⟩
          go_wp2_with fail
          refine hA.mono ?_
          rintro e w4 ⟨rfl, t4, o4⟩
          clear hA hlm
          have b4 := bd.of (o4.block q bd.lt (fun h => by have := td.neq_live bd; rcases h with h | h <;> omega))
          have hlm := b4.cell m (by omega)
          have hfm := b4.free m
          go_wp2_with fail
          go_roundw
          case rel =>
            obtain ⟨n1, n2⟩ := td.neq_live bd
            exact ⟨k + 1, L.set m { seg L m with live := (seg L m).live + y }, by omega, by omega, by go_num, by rw [List.length_set]; exact hL5,
              liveOk_set hlv m (by omega) _ ⟨by show 0 ≤ (seg L m).live + y; omega, by show (seg L m).live + y ≤ z; omega⟩,
              t4.of (Below.heap_setCell _ _ _ _ (fun e => n1 e.symm)) (Below.heap_setCell _ _ _ _ (fun e => n2 e.symm)),
              b4.set m (by omega) ((seg L m).live + y) { seg L m with live := (seg L m).live + y } rfl,
              (od.fresh o4 hpw hcw).setCell (q := ⟨q, m, none⟩) (.inl hqw) _⟩
          case measure => simp [intOf]; omega
        · go_wp2_with fail
          go_quiet (fail)
          have td := t.drewN nq
          have bd : LiveB (wr.drewN nq) q L := bq
          have od := o.drewN nq
          generalize wr.drewN nq = wd at td bd od ⊢
          clear hlm c0 c1 t bq o
          have hlm := bd.cell m (by omega)
          have hA := add_no m y td (by omega) ⟨hv1, hv2⟩ (by omega) (fun h => by have := h.2; omega)
          go_wp2_with fail
          refine hA.mono ?_
          rintro e w4 ⟨rfl, o4⟩
          clear hA hlm
          go_wp2_with fail
          go_roundw
          case rel => exact ⟨k + 1, L, by omega, by omega, by go_num, hL5, hlv, td.only o4 (fun h => h) (fun h => h), bd.of (o4.block q bd.lt (fun h => h)), od.trans (o4.mono fun _ _ h => h.elim)⟩
          case measure => simp [intOf]; omega
      · go_wp2_with fail
        go_quiet (fail)
        have td := t.drewN nq
        have bd : LiveB (wr.drewN nq) q L := bq
        have od := o.drewN nq
        generalize wr.drewN nq = wd at td bd od ⊢
        clear hlm c0 c1 t bq o
        have hlm := bd.cell m (by omega)
        have hA := add_no m y td (by omega) ⟨hv1, hv2⟩ (by omega) (fun h => by have := h.1; omega)
        go_wp2_with fail
        refine hA.mono ?_
        rintro e w4 ⟨rfl, o4⟩
        clear hA hlm
        go_wp2_with fail
        go_roundw
        case rel => exact ⟨k + 1, L, by omega, by omega, by go_num, hL5, hlv, td.only o4 (fun h => h) (fun h => h), bd.of (o4.block q bd.lt (fun h => h)), od.trans (o4.mono fun _ _ h => h.elim)⟩
        case measure => simp [intOf]; omega
    · clear HR
      have htot := fun k hk => totalL_bd L z hlv (by omega) k hk
      have Htot := Lib.hid htot
      clear htot
      go_wp2_with fail
      all_goals
        go_loopw [96, 13] (fun i n wx => ∃ j : Nat, j ≤ 5 ∧ i = .int .i64 j ∧ n = .int .i64 (totalL (L.take j)) ∧ Only (fun _ => False) wr wx) (fun i _ _ => 5 - (intOf i).toNat)
        case atStart => exact ⟨0, by omega, rfl, rfl, Only.refl _ _⟩
        case round =>
          obtain ⟨j, hj, rfl, rfl, ox⟩ := hrel
          have tx := t.only ox (fun h => h) (fun h => h)
          have bx := bq.of (ox.block q bq.lt (fun h => h))
          obtain ⟨hb1, hb2⟩ := Htot.out j (by omega)
          by_cases hlt : j < 5
          · have hG := get_ok j tx (by omega)
            obtain ⟨hv1, hv2⟩ := hlv j (by omega)
            have HT := Lib.hid (totalL_take L j (by omega))
            go_wp2_with fail
            refine hG.mono ?_
            rintro e w4 ⟨rfl, o4⟩
            clear hG
            have b4 := bx.of (o4.block q bx.lt (fun h => h))
            have hlm := fun o => cell_alloc_old w4 o q j _ (b4.cell j (by omega))
            go_wp2_with fail
            go_quiet (fail)
            go_wp2_with fail
            go_roundw
            case rel => exact ⟨j + 1, by omega, by go_num, by rw [HT.out], (ox.trans (o4.alloc _)).drewN _⟩
            case measure => simp [intOf]; omega
          · have e : L.take j = L := List.take_of_length_le (by omega)
            rw [e]
            have hT := total_any tx (by omega) hlv (by omega)
            go_wp2_with fail
            refine hT.mono ?_
            rintro e w5 ⟨rfl, o5⟩
            clear hT
            go_wp2_with fail
            go_ret
            exact ⟨rfl, (o.trans ((ox.trans o5).mono fun _ _ h => h.elim)).mono fun k hk h => absurd hk (Nat.not_lt.2 h)⟩
end Go.Proofs.Ytfjkdkkljfgboaa
