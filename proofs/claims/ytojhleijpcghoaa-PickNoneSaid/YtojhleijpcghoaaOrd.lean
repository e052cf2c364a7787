/-
  The walk of the document's Order: what it answers. Conditions: the slice's cells; candidates within their bounds.
-/
import Derived.Test.YtojhleijpcghoaaRfb
import Derived.Maps.AppendAt
import Derived.Laws.AppendOwnNone
import Derived.Deep.DeepCutAuto
namespace Go.Proofs.Ytojhleijpcghoaa
open Go.RowKit
set_option linter.unusedVariables false

/-- The place in a list at which a candidate is put: behind the last that it isn't better than. -/
def insAt (x : Cd) (out : List Cd) : Nat → Nat
  | 0 => 0
  | n + 1 => if betC x (out.getD n Cd.zero) = true then insAt x out n else n + 1
def insF (x : Cd) (out : List Cd) : List Cd := out.take (insAt x out out.length) ++ x :: out.drop (insAt x out out.length)
def orderF (l : List Cd) : List Cd := l.foldl (fun o x => insF x o) []
theorem insAt_le (x : Cd) (out : List Cd) : ∀ n, insAt x out n ≤ n := by
  intro n
  induction n with
  | zero => exact Nat.le_refl _
  | succ n ih =>
    unfold insAt
    split
    · omega
    · omega
theorem len_insF (x : Cd) (out : List Cd) : (insF x out).length = out.length + 1 := by
  have := insAt_le x out out.length
  simp [insF]
  omega
theorem orderF_next (l : List Cd) (k : Nat) (h : k < l.length) : orderF (l.take (k + 1)) = insF (l.getD k Cd.zero) (orderF (l.take k)) := by
  rw [List.take_succ_eq_append_getElem h, orderF, List.foldl_append, List.getD_eq_getElem?_getD, List.getElem?_eq_getElem h]
  rfl
theorem len_orderF (l : List Cd) : ∀ k, k ≤ l.length → (orderF (l.take k)).length = k := by
  intro k
  induction k with
  | zero => intro _; simp [orderF]
  | succ k ih => intro h; rw [orderF_next l k (by omega), len_insF, ih (by omega)]
theorem mem_insF (x y : Cd) (out : List Cd) : y ∈ insF x out ↔ y = x ∨ y ∈ out := by
  have h : y ∈ out ↔ y ∈ out.take (insAt x out out.length) ∨ y ∈ out.drop (insAt x out out.length) := by
    rw [← List.mem_append, List.take_append_drop]
  rw [h]
  simp only [insF, List.mem_append, List.mem_cons]
  constructor
  · rintro (h | h | h)
    · exact .inr (.inl h)
    · exact .inl h
    · exact .inr (.inr h)
  · rintro (h | h | h)
    · exact .inr (.inl h)
    · exact .inl h
    · exact .inr (.inr h)
theorem mem_orderF (l : List Cd) (y : Cd) : y ∈ orderF l ↔ y ∈ l := by
  have key : ∀ (l o : List Cd), y ∈ l.foldl (fun o x => insF x o) o ↔ y ∈ l ∨ y ∈ o := by
    intro l
    induction l with
    | nil => intro o; simp
    | cons x l ih =>
      intro o
      rw [List.foldl_cons, ih, mem_insF, List.mem_cons]
      constructor
      · rintro (h | h | h)
        · exact .inl (.inr h)
        · exact .inl (.inl h)
        · exact .inr h
      · rintro ((h | h) | h)
        · exact .inr (.inl h)
        · exact .inl h
        · exact .inr (.inr h)
  rw [orderF, key]
  simp

/-! ### append of a list's part -/
/-- A source of an append: nil, or cells that are known. -/
def Src (w : World) (A : Option Addr) (m c : Nat) (news : List Value) : Prop :=
  (A = none ∧ m = 0 ∧ c = 0 ∧ news = []) ∨ ∃ ad, A = some ad ∧ news.length = m * 4 ∧ ∀ j u, news[j]? = some u → w.cell? (ad.add j) = some u

theorem wpList_append_src {w : World} {ops : Array Oper} {rest : List Oper} {o : Oper} {a : Act} {Q : Exit → Act → World → Prop} (hgd : o.guard = none) (s x : Operand)
    (t e : TypeId) (ho : o.op = .call { callee := .builtin .append, args := #[s, x], argTypes := #[t, t] })
    (i : TypeInfo) (z : Value) (ht : Try.prog.underlying t = some (.slice e)) (hi : Try.prog.info? e = some i) (hz : i.zero = some z) (hsize : i.size = 4) (hby : i.bytes = 32) (hzs : z.cells.size = 4)
    (base : Nat) (v : Value) (n : Nat) (xs : List Value) (hs : a.eval s = v) (hown : w.ownsRow base e 4 v n xs)
    (A : Option Addr) (m c : Nat) (news : List Value) (hx : a.eval x = .slice A m c) (hsrc : Src w A m c news) (h1 : ∀ u ∈ news, u.oneCell' = true)
    (h63 : n + m ≤ maxLen) (hbytes : (n + m) * 32 ≤ 140737488355328) (hbase : base ≤ w.heap.size)
    (nm : Nat) (hnm : n + m = nm) (ys : List Value) (hys : xs ++ news = ys)
    (h : ∀ A' c' w', w'.ownsRow base e 4 (.slice A' nm c') nm ys → w.grownBy w' v.ownBlock → wpList Try.prog ops Q rest (a.put o.dst (.slice A' nm c')) w') : wpList Try.prog ops Q (o :: rest) a w := by
  subst hnm hys
  rcases hsrc with ⟨rfl, rfl, rfl, rfl⟩ | ⟨ad, rfl, hl, hc⟩
  · obtain ⟨A', c', rfl⟩ := own_slice hown
    refine wpList_append_own_none (w := w) hgd s x t ho base e i 4 ht hi (.slice A' n c') n xs hs hown hx ?_
    exact h A' c' w (by simpa using hown) (World.grownBy.refl w _)
  · refine wpList_append_own w hgd s x t ho base e i z 4 32 ht hi hz hsize hby hzs (by decide) v n xs hs hown ad m c news hx hl hc h1 h63 hbytes hbase ?_
    intro v' w' hown' hg _
    obtain ⟨A', c', rfl⟩ := own_slice hown'
    exact h A' c' w' hown' hg
theorem flatC_one (l : List Cd) : ∀ u ∈ flatC l, u.oneCell' = true := by
  induction l with
  | nil => intro u hu; simp [flatC] at hu
  | cons x l ih =>
    intro u hu
    simp only [flatC, List.mem_cons] at hu
    rcases hu with rfl | rfl | rfl | rfl | hu
    · rfl
    · rfl
    · rfl
    · rfl
    · exact ih u hu
theorem flatC_take (l : List Cd) : ∀ n, flatC (l.take n) = (flatC l).take (n * 4) := by
  induction l with
  | nil => intro n; simp [flatC]
  | cons x l ih =>
    intro n
    cases n with
    | zero => simp [flatC]
    | succ n => rw [show (n + 1) * 4 = n * 4 + 4 from by omega]; simp [flatC, ih]
theorem flatC_drop (l : List Cd) : ∀ n, flatC (l.drop n) = (flatC l).drop (n * 4) := by
  induction l with
  | nil => intro n; simp [flatC]
  | cons x l ih =>
    intro n
    cases n with
    | zero => simp
    | succ n => rw [show (n + 1) * 4 = n * 4 + 4 from by omega]; simp [flatC, ih]
/-- The head of an own row as a source. -/
theorem src_take {w : World} {base g k c c' p : Nat} {e : TypeId} {out : List Cd} (h : w.ownsRow base e 4 (.slice (some ⟨g, 0, none⟩) k c) k (flatC out)) (hp : p ≤ out.length) : Src w (some ⟨g, 0, none⟩) p c' (flatC (out.take p)) := by
  refine .inr ⟨_, rfl, ?_, fun j u hu => h.cells (g := g) rfl j u ?_⟩
  · rw [flatC_length, List.length_take, Nat.min_eq_left hp]
  · rw [flatC_take] at hu
    have hj := (List.getElem?_eq_some_iff.1 hu).1
    rw [List.getElem?_take_of_lt (by rw [List.length_take] at hj; omega)] at hu
    exact hu
theorem src_drop {w : World} {base g k c c' p : Nat} {e : TypeId} {out : List Cd} (h : w.ownsRow base e 4 (.slice (some ⟨g, 0, none⟩) k c) k (flatC out)) (hk : out.length = k) (hp : p ≤ k) : Src w (some ⟨g, p * 4, none⟩) (k - p) c' (flatC (out.drop p)) := by
  refine .inr ⟨_, rfl, ?_, fun j u hu => ?_⟩
  · rw [flatC_length, List.length_drop, hk]
  · rw [flatC_drop, List.getElem?_drop] at hu
    have h2 := h.cells (g := g) rfl _ _ hu
    have e1 : ∀ n, (⟨g, 0, none⟩ : Addr).add n = ⟨g, n, none⟩ := fun n => by unfold Addr.add; split <;> simp_all
    have e2 : (⟨g, p * 4, none⟩ : Addr).add j = ⟨g, p * 4 + j, none⟩ := by unfold Addr.add; split <;> simp_all
    rw [e1] at h2
    rw [e2]
    exact h2
theorem own_low {w : World} {a b size n : Nat} {e : TypeId} {v : Value} {xs : List Value} (h : w.ownsRow b e size v n xs) (hab : a ≤ b) : w.ownsRow a e size v n xs := by
  refine ⟨h.1, ?_⟩
  rcases h.2 with hn | ⟨g, cap, cur, h1, h2, h3⟩
  · exact .inl hn
  · exact .inr ⟨g, cap, cur, h1, Nat.le_trans hab h2, h3⟩

theorem src_one (w : World) (x : Cd) : Src (w.alloc (.cells #[.int .i64 x.seg, .int .i64 x.live, .int .i64 x.cap, .int .i64 x.age] 39)) (some ⟨w.heap.size, 0, none⟩) 1 1 (flatC [x]) :=
  .inr ⟨_, rfl, rfl, World.news_of_block (cs := #[.int .i64 x.seg, .int .i64 x.live, .int .i64 x.cap, .int .i64 x.age]) (t := 39) (fr := (0, 0)) (heap_alloc_new w _)⟩
theorem cds_at {w : World} {b off k : Nat} {l : List Cd} {x : Cd} (h : CdsAt w (some ⟨b, off, none⟩) l) (hk : k < l.length) (hx : l.getD k Cd.zero = x) :
    w.cell? ⟨b, off + k * 4, none⟩ = some (.int .i64 x.seg) ∧ w.cell? ⟨b, off + k * 4 + 1, none⟩ = some (.int .i64 x.live) ∧
    w.cell? ⟨b, off + k * 4 + 2, none⟩ = some (.int .i64 x.cap) ∧ w.cell? ⟨b, off + k * 4 + 3, none⟩ = some (.int .i64 x.age) := by
  obtain ⟨b1, off1, ha, z⟩ := h k hk
  injection ha with ha
  injection ha with h1 h2
  subst h1; subst h2; subst hx
  exact z

theorem src_end {w : World} {k g : Nat} {out : List Cd} (h : out.length = k) : Src w (some ⟨g, 0, none⟩) 0 0 (flatC (out.drop k)) := by
  rw [List.drop_eq_nil_of_le (by omega)]
  exact .inr ⟨_, rfl, rfl, fun j u hu => by simp [flatC] at hu⟩
theorem insF_flat {x : Cd} {out : List Cd} {p : Nat} (h : insAt x out out.length = p) : flatC (out.take p ++ [x]) ++ flatC (out.drop p) = flatC (insF x out) := by
  rw [← flatC_append, insF, h]
  simp

theorem own_cds {w : World} {base k g c : Nat} {e : TypeId} {out : List Cd} (h : w.ownsRow base e 4 (.slice (some ⟨g, 0, none⟩) k c) k (flatC out)) (hk : out.length = k) : CdsAt w (some ⟨g, 0, none⟩) out := by
  obtain ⟨a, c', e, h1, _⟩ := cds_row h hk.symm
  injection e with e1 e2 e3
  rw [e1]
  exact h1
theorem CdsAt.lt {w : World} {b off : Nat} {l : List Cd} (h : CdsAt w (some ⟨b, off, none⟩) l) (hl : 0 < l.length) : b < w.heap.size := by
  obtain ⟨b1, off1, ha, h0, _⟩ := h 0 hl
  injection ha with ha
  injection ha with h1 h2
  subst h1
  exact World.block_lt_of_cell? _ _ h0

/-- Does the place go down? -/
def stepB (x : Cd) (out : List Cd) (p : Nat) : Bool := decide (0 < p) && betC x (out.getD (p - 1) Cd.zero)

set_option maxRecDepth 100000 in
set_option maxHeartbeats 2000000 in
theorem order_any (a : Option Addr) (cap : Nat) (l : List Cd) (w : World) (hL : l.length ≤ 512) (h : CdsAt w a l) (hG : ∀ x ∈ l, Gd x) :
    Calls Try.prog 22 #[.slice a l.length cap] w (RowRes w (orderF l)) := by
  have HA := Lib.hid h
  have HG := Lib.hid hG
  obtain ⟨i0, hi0, hz0, hz1, hz2⟩ := info_parts info39
  have HI := Lib.hid (And.intro hi0 (And.intro hz0 (And.intro hz1 hz2)))
  clear h hG hi0 hz0 hz1 hz2
  go_enter Try.func22, Try.ntmps22
  go_wp2_with fail
  go_loopw [3, 9] (fun v iv wr => ∃ (k : Nat), k ≤ l.length ∧ iv = .int .i64 k ∧ wr.ownsRow w.heap.size 39 4 v k (flatC (orderF (l.take k))) ∧ Hid (k = 0 → v = .slice none 0 0) ∧ Only (fun _ => False) w wr) (fun _ iv _ => l.length - (intOf iv).toNat)
  case atStart => exact ⟨0, Nat.zero_le _, rfl, World.ownsRow_nil _ _ _ _, fun _ => rfl, Only.refl _ _⟩
  case round =>
    obtain ⟨k, hk, rfl, hO, hz, o⟩ := hrel
    by_cases hlt : k < l.length
    · obtain ⟨b, off, ha, g0, g1, g2, g3⟩ := (HA.out.onlyF o) k hlt
      subst ha
      have hn := Lib.hid (orderF_next l k hlt)
      have hgx : Gd (l.getD k Cd.zero) := HG.out _ (getD_mem hlt)
      have hgo : Hid (∀ y ∈ orderF (l.take k), Gd y) := fun y hy => HG.out y (List.mem_of_mem_take ((mem_orderF _ _).1 hy))
      have hlo := Lib.hid (len_orderF l k (by omega))
      generalize hxx : l.getD k Cd.zero = x at *
      have HXx := Lib.hid hxx
      clear hxx
      generalize orderF (l.take k) = out at *
      have hlt1 : (k : Int) < l.length := by omega
      by_cases hk0 : k = 0
      · obtain rfl := hz.out hk0
        subst hk0
        obtain rfl : out = [] := List.eq_nil_of_length_eq_zero hlo.out
        clear g0 g1 g2 g3 hO
        have hHX := HA.out.onlyF o
        have HCx := Lib.hid hHX
        clear hHX
        go_wp2_with fail
        rename World => wo
        go_loopw [5] (fun pv wq => pv = .int .i64 0 ∧ wq = wo ∨ pv = .int .i64 0 ∧ Only (fun _ => False) wo wq) (fun pv _ => 0)
        case atStart => exact .inl ⟨rfl, rfl⟩
        case round =>
          have hrel2 : Hid (Only (fun _ => False) wo wr) ∧ u5 = .int .i64 0 := by
            rcases hrel with ⟨h1, rfl⟩ | ⟨h1, h2⟩
            · exact ⟨Only.refl _ _, h1⟩
            · exact ⟨h2, h1⟩
          clear hrel
          obtain ⟨oq, rfl⟩ := hrel2
          have hoW := Lib.hid (o.trans oq.out)
          have hcW := Lib.hid (HCx.out.onlyF oq.out)
          go_wp2_with fail
          go_region
          have hwc := World.ownsRow_made (e := 39) (size := 4) (base := wr.heap.size) wr.drew #[] 0 (Nat.le_refl _) (Nat.zero_le _) rfl
          have HM := Lib.hid hwc
          have hx1 := fun w1 (hg1 : (wr.drew.alloc (.cells #[] 39)).grownBy w1 (some wr.heap.size)) => (((Only.refl (fun _ => False) wr).drew.alloc (.cells #[] 39)).grown hg1 (fun i hi => by injection hi with hi; omega))
          have HX1 := Lib.hid hx1
          clear hwc hx1
          go_wp2_with (first
            | (at_builtin; refine wpList_append_src rfl (.tmp 30) (.tmp 33) 27 39 rfl i0 _ Try.underlying27 HI.out.1 HI.out.2.1 HI.out.2.2.1 HI.out.2.2.2 rfl wr.heap.size _ 0 [] rfl HM.out none 0 0 [] rfl (.inl ⟨rfl, rfl, rfl, rfl⟩) (by simp) (by unfold maxLen; omega) (by omega) (by simp) 0 (by omega) [] rfl ?_; intro A1 c1 w1 hown1 hg1; have ho1 := HX1.out w1 hg1; obtain ⟨z0, z1, z2, z3⟩ := cds_at (hcW.out.onlyF ho1) hlt HXx.out; have hb1 : wr.heap.size ≤ w1.heap.size := ho1.size; rw [Nat.zero_mul, Nat.add_zero] at z0 z1 z2 z3)
            | (at_builtin; refine wpList_append_src rfl (.tmp 35) (.tmp 40) 27 39 rfl i0 _ Try.underlying27 HI.out.1 HI.out.2.1 HI.out.2.2.1 HI.out.2.2.2 rfl wr.heap.size _ 0 _ rfl (hown1.alloc _) (some ⟨w1.heap.size, 0, none⟩) 1 1 (flatC [x]) rfl (src_one w1 x) (flatC_one _) (by unfold maxLen; omega) (by omega) (by simp; omega) 1 (by omega) (flatC [x]) rfl ?_; intro A2 c2 w2 hown2 hg2; have ho2 := (ho1.alloc _).grown hg2 (fun i hi => (hown1.lt i hi).1); have hb2 : wr.heap.size ≤ w2.heap.size := ho2.size)
            | (at_builtin; refine wpList_append_src rfl (.tmp 42) (.tmp 45) 27 39 rfl i0 _ Try.underlying27 HI.out.1 HI.out.2.1 HI.out.2.2.1 HI.out.2.2.2 rfl wr.heap.size _ 1 _ rfl hown2 none 0 0 [] rfl (.inl ⟨rfl, rfl, rfl, rfl⟩) (by simp) (by unfold maxLen; omega) (by omega) (by omega) 1 (by omega) (flatC (insF x [])) rfl ?_; intro A3 c3 w3 hown3 hg3; have ho3 := ho2.grown hg3 (fun i hi => (hown2.lt i hi).1)))
          go_roundw
          case rel => exact ⟨1, by omega, rfl, by rw [hn.out]; exact own_low hown3 hoW.out.size, fun e => absurd e (by omega), hoW.out.trans ho3⟩
          case measure => simp [intOf]; omega
      · have hk1 : 0 < k := by omega
        clear hk0
        obtain ⟨g, gc, rfl, -, -⟩ := hO.form hk1
        have HO := Lib.hid hO
        clear hO
        have hcap : k ≤ gc ∧ gc ≤ maxLen := by
          rcases HO.out.2 with ⟨h1, _⟩ | ⟨g', cap', cur, h1, _, _, h2, h3, _⟩
          · simp at h1
          · simp at h1; obtain ⟨_, rfl⟩ := h1; exact ⟨h2, h3⟩
        unfold maxLen at hcap
        obtain ⟨hcap1, hcap2⟩ := hcap
        go_wp2_with fail
        rename World => wo
        go_loopw [5] (fun pv wq => ∃ (p : Nat), p ≤ k ∧ pv = .int .i64 p ∧ Hid (insAt x out k = insAt x out p) ∧ Only (fun _ => False) wo wq) (fun pv _ => (intOf pv).toNat)
        case atStart => exact ⟨k, Nat.le_refl _, rfl, rfl, Only.refl _ _⟩
        case round =>
          obtain ⟨p, hp, rfl, hE, oq⟩ := hrel
          have HOq := Lib.hid (own_only HO.out oq (fun _ _ x => x))
          have HC := Lib.hid (HA.out.onlyF (o.trans oq))
          go_upto_region 6 with fail
          go_cut [27] from 14 to 27 (fun v27 wx => v27 = .bool (stepB x out p) ∧ Only (fun _ => False) wo wx)
          case first =>
            by_cases hp0 : p = 0
            · subst hp0
              have HB : Hid (stepB x out 0 = false) := rfl
              go_region
              all_goals
                go_wp2_with fail
                go_meet
                exact ⟨congrArg Value.bool HB.out.symm, oq.drew⟩
            · have hp1 : 0 < p := by omega
              clear hp0
              have HB : Hid (stepB x out p = betC x (out.getD (p - 1) Cd.zero)) := by
                show (decide (0 < p) && betC x (out.getD (p - 1) Cd.zero)) = _
                rw [decide_eq_true hp1]
                rfl
              have hql : p - 1 < out.length := by rw [hlo.out]; omega
              have hgy := hgo.out _ (getD_mem hql)
              have hS0 := own_cds HOq.out hlo.out
              have hC0 := HC.out
              generalize hyy : out.getD (p - 1) Cd.zero = y at *
              obtain ⟨y0, y1, y2, y3⟩ := cds_at hS0 hql hyy
              obtain ⟨z0, z1, z2, z3⟩ := cds_at hC0 hlt HXx.out
              have HS := Lib.hid (And.intro hS0 hC0)
              have HY := Lib.hid hyy
              have hlq := Lib.hid hql
              rw [Nat.zero_add] at y0 y1 y2 y3
              have hb1 : g < wr.heap.size := hS0.lt (by omega)
              have hb2 : b < wr.heap.size := hC0.lt (by omega)
              clear g0 g1 g2 g3 hS0 hC0 hyy hql
              have hq1 : (1 : Int) ≤ (p : Int) := by omega
              have hq2 : (p : Int) - 1 < (k : Int) := by omega
              have hq3 : IntKind.i64.wrap ((p : Int) - 1) = (p : Int) - 1 := IntWalk.i64_in _ (by omega)
              have hq4 : ((p : Int) - 1).toNat = p - 1 := by omega
              have hq0 : (0 : Int) ≤ (p : Int) - 1 := by omega
              have hq6 : (0 : Int) < (p : Int) := by omega
              go_region_held3 (fun w' => w'.cell? ⟨b, off + k * 4, none⟩ = some (.int .i64 x.seg) ∧ w'.cell? ⟨b, off + k * 4 + 1, none⟩ = some (.int .i64 x.live) ∧ w'.cell? ⟨b, off + k * 4 + 2, none⟩ = some (.int .i64 x.cap) ∧ w'.cell? ⟨b, off + k * 4 + 3, none⟩ = some (.int .i64 x.age) ∧
                  w'.cell? ⟨g, (p - 1) * 4, none⟩ = some (.int .i64 y.seg) ∧ w'.cell? ⟨g, (p - 1) * 4 + 1, none⟩ = some (.int .i64 y.live) ∧ w'.cell? ⟨g, (p - 1) * 4 + 2, none⟩ = some (.int .i64 y.cap) ∧ w'.cell? ⟨g, (p - 1) * 4 + 3, none⟩ = some (.int .i64 y.age)) (go_keep)
                ((go_at_call 17; refine (rbetter_any _ _ _ hgx hgy).mono ?_; rintro e w' ⟨rfl, o'⟩; obtain ⟨z0, z1, z2, z3⟩ := cds_at (CdsAt.onlyF (w := wr.drew) HS.out.2 o') hlt HXx.out; obtain ⟨y0, y1, y2, y3⟩ := cds_at (CdsAt.onlyF (w := wr.drew) HS.out.1 o') hlq.out HY.out; rw [Nat.zero_add] at y0 y1 y2 y3))
              all_goals
                go_wp2_with fail
                go_meet
                exact ⟨congrArg Value.bool HB.out.symm, (oq.drew).trans (by assumption)⟩
          case rest =>
            obtain ⟨rfl, ox⟩ := hcut
            cases hB : stepB x out p with
            | true =>
              have hp1 : 0 < p ∧ betC x (out.getD (p - 1) Cd.zero) = true := by simpa [stepB] using hB
              have HE2 : Hid (insAt x out k = insAt x out (p - 1)) := hE.out.trans (by
                obtain ⟨q, rfl⟩ : ∃ q, p = q + 1 := ⟨p - 1, by omega⟩
                exact if_pos hp1.2)
              have hp2 := hp1.1
              clear hp1 hB
              go_wp2_with fail
              go_roundw
              case rel => exact ⟨p - 1, by omega, congrArg (Value.int .i64) (by omega), HE2.out, ox⟩
              case measure => simp [intOf]; omega
            | false =>
              have HP : Hid (insAt x out out.length = p) := by
                show insAt x out out.length = p
                rw [hlo.out, hE.out]
                rcases Nat.eq_zero_or_pos p with h0 | h0
                · subst h0; rfl
                · obtain ⟨q, rfl⟩ : ∃ q, p = q + 1 := ⟨p - 1, by omega⟩
                  simp only [stepB, Nat.add_sub_cancel] at hB
                  have : betC x (out.getD q Cd.zero) = false := by simpa using hB
                  exact if_neg (by rw [this]; decide)
              clear hB hE
              by_cases hgp : gc = p
              · have hkp : k = p := by omega
                subst hkp
                have hgk : k = gc := hgp.symm
                clear hgp
                subst hgk
                have o1 := o.trans ox
                have HOx := Lib.hid (own_only HO.out ox (fun _ _ z => z))
                have hwc := World.ownsRow_made (e := 39) (size := 4) (base := wc.heap.size) wc #[] 0 (Nat.le_refl _) (Nat.zero_le _) rfl
                have hg0 := (HO.out.lt g rfl).2
                have hgs : g < wc.heap.size := Nat.lt_of_lt_of_le hg0 ox.size
                have HM := Lib.hid hwc
                have hx1 := fun w1 (hg1 : (wc.alloc (.cells #[] 39)).grownBy w1 (some wc.heap.size)) => (((Only.refl (fun _ => False) wc).alloc (.cells #[] 39)).grown hg1 (fun i hi => by injection hi with hi; omega))
                have HX1 := Lib.hid hx1
                clear hwc hx1
                clear g0 g1 g2 g3
                go_wp2_with (first
                  | (at_builtin; refine wpList_append_src rfl (.tmp 30) (.tmp 33) 27 39 rfl i0 _ Try.underlying27 HI.out.1 HI.out.2.1 HI.out.2.2.1 HI.out.2.2.2 rfl wc.heap.size _ 0 [] rfl HM.out (some ⟨g, 0, none⟩) k k (flatC (out.take k)) rfl (src_take ((own_only HOx.out ((Only.refl (fun _ => False) wc).alloc (.cells #[] 39)) (fun _ _ z => z))) (by rw [hlo.out]; exact hp)) (flatC_one _) (by unfold maxLen; omega) (by omega) (by simp) k (by omega) (flatC (out.take k)) rfl ?_; intro A1 c1 w1 hown1 hg1; have ho1 := HX1.out w1 hg1; obtain ⟨z0, z1, z2, z3⟩ := cds_at (HA.out.onlyF (o1.trans ho1)) hlt HXx.out; have hb1 : wc.heap.size ≤ w1.heap.size := ho1.size)
                  | (at_builtin; refine wpList_append_src rfl (.tmp 35) (.tmp 40) 27 39 rfl i0 _ Try.underlying27 HI.out.1 HI.out.2.1 HI.out.2.2.1 HI.out.2.2.2 rfl wc.heap.size _ k _ rfl (hown1.alloc _) (some ⟨w1.heap.size, 0, none⟩) 1 1 (flatC [x]) rfl (src_one w1 x) (flatC_one _) (by unfold maxLen; omega) (by omega) (by simp; omega) (k + 1) (by omega) (flatC (out.take k ++ [x])) (flatC_append _ _).symm ?_; intro A2 c2 w2 hown2 hg2; have ho2 := (ho1.alloc _).grown hg2 (fun i hi => (hown1.lt i hi).1); have hb2 : wc.heap.size ≤ w2.heap.size := ho2.size)
                  | (at_builtin; refine wpList_append_src rfl (.tmp 42) (.tmp 45) 27 39 rfl i0 _ Try.underlying27 HI.out.1 HI.out.2.1 HI.out.2.2.1 HI.out.2.2.2 rfl wc.heap.size _ (k + 1) _ rfl hown2 (some ⟨g, 0, none⟩) 0 0 (flatC (out.drop k)) rfl (src_end hlo.out) (flatC_one _) (by unfold maxLen; omega) (by omega) (by omega) (k + 1) (by omega) (flatC (insF x out)) (insF_flat HP.out) ?_; intro A3 c3 w3 hown3 hg3; have ho3 := ho2.grown hg3 (fun i hi => (hown2.lt i hi).1)))
                go_roundw
                case rel => exact ⟨k + 1, by omega, by go_num, by rw [hn.out]; exact own_low hown3 o1.size, fun e => absurd e (by omega), o1.trans ho3⟩
                case measure => simp [intOf]; omega
              · have o1 := o.trans ox
                have HOx := Lib.hid (own_only HO.out ox (fun _ _ z => z))
                have hwc := World.ownsRow_made (e := 39) (size := 4) (base := wc.heap.size) wc #[] 0 (Nat.le_refl _) (Nat.zero_le _) rfl
                have hg0 := (HO.out.lt g rfl).2
                have hgs : g < wc.heap.size := Nat.lt_of_lt_of_le hg0 ox.size
                have HM := Lib.hid hwc
                have hx1 := fun w1 (hg1 : (wc.alloc (.cells #[] 39)).grownBy w1 (some wc.heap.size)) => (((Only.refl (fun _ => False) wc).alloc (.cells #[] 39)).grown hg1 (fun i hi => by injection hi with hi; omega))
                have HX1 := Lib.hid hx1
                clear hwc hx1
                clear g0 g1 g2 g3
                go_wp2_with (first
                  | (at_builtin; refine wpList_append_src rfl (.tmp 30) (.tmp 33) 27 39 rfl i0 _ Try.underlying27 HI.out.1 HI.out.2.1 HI.out.2.2.1 HI.out.2.2.2 rfl wc.heap.size _ 0 [] rfl HM.out (some ⟨g, 0, none⟩) p gc (flatC (out.take p)) rfl (src_take ((own_only HOx.out ((Only.refl (fun _ => False) wc).alloc (.cells #[] 39)) (fun _ _ z => z))) (by rw [hlo.out]; exact hp)) (flatC_one _) (by unfold maxLen; omega) (by omega) (by simp) p (by omega) (flatC (out.take p)) rfl ?_; intro A1 c1 w1 hown1 hg1; have ho1 := HX1.out w1 hg1; obtain ⟨z0, z1, z2, z3⟩ := cds_at (HA.out.onlyF (o1.trans ho1)) hlt HXx.out; have hb1 : wc.heap.size ≤ w1.heap.size := ho1.size)
                  | (at_builtin; refine wpList_append_src rfl (.tmp 35) (.tmp 40) 27 39 rfl i0 _ Try.underlying27 HI.out.1 HI.out.2.1 HI.out.2.2.1 HI.out.2.2.2 rfl wc.heap.size _ p _ rfl (hown1.alloc _) (some ⟨w1.heap.size, 0, none⟩) 1 1 (flatC [x]) rfl (src_one w1 x) (flatC_one _) (by unfold maxLen; omega) (by omega) (by simp; omega) (p + 1) (by omega) (flatC (out.take p ++ [x])) (flatC_append _ _).symm ?_; intro A2 c2 w2 hown2 hg2; have ho2 := (ho1.alloc _).grown hg2 (fun i hi => (hown1.lt i hi).1); have hb2 : wc.heap.size ≤ w2.heap.size := ho2.size)
                  | (at_builtin; refine wpList_append_src rfl (.tmp 42) (.tmp 45) 27 39 rfl i0 _ Try.underlying27 HI.out.1 HI.out.2.1 HI.out.2.2.1 HI.out.2.2.2 rfl wc.heap.size _ (p + 1) _ rfl hown2 (some ⟨g, p * 4, none⟩) (k - p) (gc - p) (flatC (out.drop p)) rfl (src_drop (own_only HOx.out ho2 (fun _ _ z => z)) hlo.out hp) (flatC_one _) (by unfold maxLen; omega) (by omega) (by omega) (k + 1) (by omega) (flatC (insF x out)) (insF_flat HP.out) ?_; intro A3 c3 w3 hown3 hg3; have ho3 := ho2.grown hg3 (fun i hi => (hown2.lt i hi).1)))
                go_roundw
                case rel => exact ⟨k + 1, by omega, by go_num, by rw [hn.out]; exact own_low hown3 o1.size, fun e => absurd e (by omega), o1.trans ho3⟩
                case measure => simp [intOf]; omega
    · obtain rfl : k = l.length := by omega
      have hlo := len_orderF l l.length (Nat.le_refl _)
      rw [List.take_length] at hO hlo
      have HO : Hid (wr.ownsRow w.heap.size 39 4 u3 (orderF l).length (flatC (orderF l))) := by rw [hlo]; exact hO
      clear hlo hO hz
      go_wp2_with fail
      go_ret
      exact ⟨_, rfl, HO.out, o⟩
end Go.Proofs.Ytojhleijpcghoaa
