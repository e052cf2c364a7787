/-
  The walk of slices.Clip on candidates: the same list, its capacity its length. Conditions: a list that the call owns.
-/
import Derived.Test.YtojhleijpcghoaaChk
namespace Go.Proofs.Ytojhleijpcghoaa
open Go.RowKit
set_option linter.unusedVariables false

def flatC : List Cd → List Value
  | [] => []
  | x :: l => .int .i64 x.seg :: .int .i64 x.live :: .int .i64 x.cap :: .int .i64 x.age :: flatC l
theorem flatC_length (l : List Cd) : (flatC l).length = l.length * 4 := by
  induction l with
  | nil => rfl
  | cons s l ih => simp [flatC, ih]; omega
theorem flatC_append (A B : List Cd) : flatC (A ++ B) = flatC A ++ flatC B := by
  induction A with
  | nil => rfl
  | cons s A ih => simp [flatC, ih]
theorem flatC_at (l : List Cd) : ∀ i, i < l.length →
    (flatC l)[i * 4]? = some (.int .i64 (l.getD i Cd.zero).seg) ∧ (flatC l)[i * 4 + 1]? = some (.int .i64 (l.getD i Cd.zero).live) ∧ (flatC l)[i * 4 + 2]? = some (.int .i64 (l.getD i Cd.zero).cap) ∧
    (flatC l)[i * 4 + 3]? = some (.int .i64 (l.getD i Cd.zero).age) := by
  induction l with
  | nil => intro i h; simp at h
  | cons s l ih =>
    intro i h
    cases i with
    | zero => simp [flatC]
    | succ i =>
      have := ih i (by simpa using h)
      rw [show (i + 1) * 4 = i * 4 + 4 from by omega, show i * 4 + 4 + 1 = i * 4 + 1 + 4 from by omega, show i * 4 + 4 + 2 = i * 4 + 2 + 4 from by omega, show i * 4 + 4 + 3 = i * 4 + 3 + 4 from by omega]
      simpa [flatC] using this

/-- A list of candidates that the call has made, of that length. -/
def Cds (w : World) (B : Nat) (v : Value) (l : List Cd) : Prop :=
  ∃ a cap, v = .slice a l.length cap ∧ CdsAt w a l ∧ (∀ b off, a = some ⟨b, off, none⟩ → B ≤ b)

theorem cds_own {w : World} {B n : Nat} {v : Value} {l : List Cd} (hown : w.ownsRow B 35 4 v n (flatC l)) (hn : n = l.length) : Cds w B v l := by
  subst hn
  obtain ⟨_, h⟩ := hown
  rcases h with ⟨rfl, h0⟩ | ⟨g, cap, cur, rfl, hg, hh, hn, hcap, hcur, hx⟩
  · rw [List.eq_nil_of_length_eq_zero h0]
    exact ⟨none, 0, rfl, fun k hk => by simp at hk, fun b off e => by simp at e⟩
  · refine ⟨_, cap, rfl, fun k hk => ⟨g, 0, rfl, ?_⟩, fun b off e => by simp at e; omega⟩
    have hc : ∀ j u, j < l.length * 4 → (flatC l)[j]? = some u → w.cell? ⟨g, j, none⟩ = some u := by
      intro j u hj hu
      have h2 : (cur.toList.take (l.length * 4))[j]? = (flatC l)[j]? := by rw [hx]
      rw [List.getElem?_take_of_lt hj, hu] at h2
      have h3 : cur[j]? = some u := by rw [← h2]; simp
      simp [World.cell?, hh, h3]
    obtain ⟨h0, h1, h2, h3⟩ := flatC_at l k hk
    rw [Nat.zero_add]
    exact ⟨hc _ _ (by omega) h0, hc _ _ (by omega) h1, hc _ _ (by omega) h2, hc _ _ (by omega) h3⟩

/-- A list of candidates that the call has made, known whole: nil or a block of its own from its head on. -/
def CdOwn (w : World) (B : Nat) (v : Value) (l : List Cd) : Prop :=
  (v = .slice none 0 0 ∧ l = []) ∨ ∃ g cur, v = .slice (some ⟨g, 0, none⟩) l.length l.length ∧ B ≤ g ∧ w.heap[g]? = some (.cells cur 35 (0, 0)) ∧ l.length * 4 ≤ cur.size ∧ cur.toList.take (l.length * 4) = flatC l
theorem CdOwn.nil (w : World) (B : Nat) : CdOwn w B (.slice none 0 0) [] := .inl ⟨rfl, rfl⟩
theorem CdOwn.of {w w' : World} {B : Nat} {v : Value} {l : List Cd} (h : CdOwn w B v l) (o : ∀ k, B ≤ k → k < w.heap.size → w'.heap[k]? = w.heap[k]?) : CdOwn w' B v l := by
  rcases h with h | ⟨g, cur, h1, h2, h3, h4⟩
  · exact .inl h
  · exact .inr ⟨g, cur, h1, h2, (o g h2 (Array.getElem?_eq_some_iff.1 h3).1).trans h3, h4⟩
theorem CdOwn.onlyF {w w' : World} {B : Nat} {v : Value} {l : List Cd} (h : CdOwn w B v l) (o : Only (fun _ => False) w w') : CdOwn w' B v l := h.of fun k _ hk => o.block k hk (fun x => x)
theorem CdOwn.low {w : World} {A B : Nat} {v : Value} {l : List Cd} (h : CdOwn w B v l) (hA : A ≤ B) : CdOwn w A v l := by
  rcases h with h | ⟨g, cur, h1, h2, h3⟩
  · exact .inl h
  · exact .inr ⟨g, cur, h1, Nat.le_trans hA h2, h3⟩
theorem CdOwn.cds {w : World} {B : Nat} {v : Value} {l : List Cd} (h : CdOwn w B v l) : Cds w B v l := by
  rcases h with ⟨rfl, rfl⟩ | ⟨g, cur, rfl, hg, hh, hs, hx⟩
  · exact ⟨none, 0, rfl, fun k hk => by simp at hk, fun b off e => by simp at e⟩
  · refine ⟨_, l.length, rfl, fun k hk => ⟨g, 0, rfl, ?_⟩, fun b off e => by simp at e; omega⟩
    have hc : ∀ j u, j < l.length * 4 → (flatC l)[j]? = some u → w.cell? ⟨g, j, none⟩ = some u := by
      intro j u hj hu
      have h2 : (cur.toList.take (l.length * 4))[j]? = (flatC l)[j]? := by rw [hx]
      rw [List.getElem?_take_of_lt hj, hu] at h2
      have h3 : cur[j]? = some u := by rw [← h2]; simp
      simp [World.cell?, hh, h3]
    obtain ⟨h0, h1, h2, h3⟩ := flatC_at l k hk
    rw [Nat.zero_add]
    exact ⟨hc _ _ (by omega) h0, hc _ _ (by omega) h1, hc _ _ (by omega) h2, hc _ _ (by omega) h3⟩

/-- What Clip answers. -/
def ClipRes (w : World) (B : Nat) (l : List Cd) (e : Ending) (w' : World) : Prop := ∃ v', e = .returned v' ∧ CdOwn w B v' l ∧ w = w'
theorem clip_any {w : World} {B : Nat} {v : Value} {l : List Cd} (hl : l.length ≤ 600) (hown : w.ownsRow B 35 4 v l.length (flatC l)) :
    Calls Try.prog 30 #[v] w (ClipRes w B l) := by
  obtain ⟨_, h⟩ := hown
  rcases h with ⟨rfl, h0⟩ | ⟨g, cap, cur, rfl, hg, hh, hn, hcap, hcur, hx⟩
  · have HC : Hid (CdOwn w B (.slice none 0 0) l) := .inl ⟨rfl, List.eq_nil_of_length_eq_zero h0⟩
    go_enter Try.func30, Try.ntmps30
    go_wp2
    go_ret
    exact ⟨_, rfl, HC.out, rfl⟩
  · have hcs : l.length * 4 ≤ cur.size := by omega
    have HC : Hid (CdOwn w B (.slice (some ⟨g, 0, none⟩) l.length l.length) l) := .inr ⟨g, cur, rfl, hg, hh, hcs, hx⟩
    unfold maxLen at hcap
    clear hx hh hcur hcs
    go_enter Try.func30, Try.ntmps30
    go_wp2
    go_ret
    exact ⟨_, rfl, HC.out, rfl⟩
end Go.Proofs.Ytojhleijpcghoaa
