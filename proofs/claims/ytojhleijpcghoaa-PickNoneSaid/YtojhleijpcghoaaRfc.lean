/-
  The walks of the document's Best and Until: what they answer. Conditions: the slice's cells.
-/
import Derived.Test.YtojhleijpcghoaaOrd
namespace Go.Proofs.Ytojhleijpcghoaa
open Go.RowKit
set_option linter.unusedVariables false

theorem gd_chk {l : List Cd} (h : chkC l = 0) : ∀ x ∈ l, Gd x := by
  have hb : l.any badC = false := by
    unfold chkC at h
    split at h
    · simp at h
    · rename_i h2
      cases hb : l.any badC with
      | true => exact absurd (.inr hb) h2
      | false => rfl
  intro x hx
  rw [List.any_eq_false] at hb
  exact (badC_gd x).1 (by simpa using hb x hx)
theorem len_order (l : List Cd) : (orderF l).length = l.length := by
  have := len_orderF l l.length (Nat.le_refl _)
  rwa [List.take_length] at this

/-- As many as make so much room. -/
def untilN : List Cd → Int → Nat
  | [], _ => 0
  | x :: l, room => if 0 < room then untilN l (room - (x.cap - x.live)) + 1 else 0
theorem untilN_le (l : List Cd) : ∀ room, untilN l room ≤ l.length := by
  induction l with
  | nil => intro room; exact Nat.le_refl _
  | cons x l ih =>
    intro room
    unfold untilN
    split
    · have := ih (room - (x.cap - x.live)); simp; omega
    · simp
def rbestC (l : List Cd) (k : Int) : List Cd × Int := if chkC l ≠ 0 ∨ k < 0 then ([], 22) else ((orderF l).take k.toNat, 0)
def runtilC (l : List Cd) (k : Int) : List Cd × Int := if chkC l ≠ 0 ∨ k < 0 then ([], 22) else ((orderF l).take (untilN (orderF l) k), 0)

/-- What the document's Best and Until answer. -/
def RPickRes (w : World) (x : List Cd × Int) (e : Ending) (w' : World) : Prop := ∃ a cap, e = .returned (.tuple #[.slice a x.1.length cap, .int .i64 x.2]) ∧ CdsAt w' a x.1 ∧ Only (fun _ => False) w w'

theorem CdsAt.take {w : World} {a : Option Addr} {l : List Cd} (h : CdsAt w a l) (n : Nat) : CdsAt w a (l.take n) := by
  intro k hk
  rw [List.length_take] at hk
  have e : (l.take n).getD k Cd.zero = l.getD k Cd.zero := by
    rw [List.getD_eq_getElem?_getD, List.getD_eq_getElem?_getD, List.getElem?_take_of_lt (by omega)]
  rw [e]
  exact h k (by omega)
theorem CdsAt.nil (w : World) (a : Option Addr) : CdsAt w a [] := fun k hk => by simp at hk

theorem tup_slice {A : Option Addr} {n m c : Nat} {i : Int} (h : n = m) : Ending.returned (.tuple #[.slice A n c, .int .i64 i]) = .returned (.tuple #[.slice A m c, .int .i64 i]) := by rw [h]

set_option maxHeartbeats 2000000 in
theorem rbest_any (a : Option Addr) (cap : Nat) (l : List Cd) (k : Int) (w : World) (hL : l.length ≤ 1000) (h : CdsAt w a l) :
    Calls Try.prog 11 #[.slice a l.length cap, .int .i64 k] w (RPickRes w (rbestC l k)) := by
  have hI := good_any a cap l w hL h
  rcases chk_two l with hc | hc
  · rw [hc] at hI
    simp only [decide_true] at hI
    by_cases hk : k < 0
    · have HR : Hid (rbestC l k = ([], 22)) := if_pos (.inr hk)
      clear hc h
      rw [HR.out]
      go_enter Try.func11, Try.ntmps11
      go_wp2_with fail
      refine hI.mono ?_
      rintro e w2 ⟨rfl, o2⟩
      clear hI
      go_wp2_with fail
      go_ret2
      exact ⟨none, 0, rfl, CdsAt.nil _ _, o2⟩
    · have HR : Hid (rbestC l k = ((orderF l).take k.toNat, 0)) := if_neg (by rw [hc]; simp; omega)
      have HG := Lib.hid (gd_chk hc)
      have hl5 := chk_len hc
      have HL := Lib.hid (len_order l)
      have HH := Lib.hid h
      have hOr := fun w2 (o2 : Only (fun _ => False) w w2) => order_any a cap l w2 hl5 (HH.out.onlyF o2) HG.out
      have HOr := Lib.hid hOr
      clear hc h hOr
      rw [HR.out]
      go_enter Try.func11, Try.ntmps11
      go_wp2_with fail
      refine hI.mono ?_
      rintro e w2 ⟨rfl, o2⟩
      clear hI
      go_wp2_with fail
      refine (HOr.out _ o2).mono ?_
      rintro e w3 ⟨v, rfl, hO, o3⟩
      obtain ⟨A, c, e, h1, -⟩ := cds_row hO rfl
      subst e
      have hcl : l.length ≤ c ∧ c ≤ maxLen ∨ (A = none ∧ l.length = 0 ∧ c = 0) := by
        rcases hO.2 with ⟨e1, e2⟩ | ⟨g, cap', cur, e1, _, _, e2, e3, _⟩
        · injection e1 with e1 e3 e4; exact .inr ⟨e1, by rw [← HL.out]; exact e2, e4⟩
        · injection e1 with e1 e4 e5; rw [HL.out] at e2; subst e5; exact .inl ⟨e2, e3⟩
      have H1 := Lib.hid h1
      clear hO h1
      have hcl1 : l.length ≤ c := by rcases hcl with h | h; exact h.1; omega
      have hcl2 : c ≤ maxLen := by rcases hcl with h | h; exact h.2; rw [h.2.2]; exact Nat.zero_le _
      unfold maxLen at hcl2
      clear hcl
      rw [HL.out]
      by_cases hkl : k < l.length
      · have HT : Hid (((orderF l).take k.toNat).length = k.toNat) := by
          show ((orderF l).take k.toNat).length = k.toNat
          rw [List.length_take, HL.out]; omega
        go_wp2_with fail
        go_ret2
        exact ⟨A, c, tup_slice HT.out.symm, H1.out.take _, o2.trans o3⟩
      · have HT : Hid ((orderF l).take k.toNat = orderF l) := List.take_of_length_le (by rw [HL.out]; omega)
        go_wp2_with fail
        go_ret2
        exact ⟨A, c, tup_slice (by rw [HT.out, HL.out]), H1.out.take _, o2.trans o3⟩
  · have HR : Hid (rbestC l k = ([], 22)) := if_pos (.inl (by rw [hc]; decide))
    rw [hc] at hI
    simp only [show decide ((22 : Int) = 0) = false from rfl] at hI
    clear hc h
    rw [HR.out]
    go_enter Try.func11, Try.ntmps11
    go_wp2_with fail
    refine hI.mono ?_
    rintro e w2 ⟨rfl, o2⟩
    clear hI
    go_wp2_with fail
    go_ret2
    exact ⟨none, 0, rfl, CdsAt.nil _ _, o2⟩

set_option maxHeartbeats 2000000 in
theorem runtil_any (a : Option Addr) (cap : Nat) (l : List Cd) (k : Int) (w : World) (hL : l.length ≤ 1000) (hK : k ≤ 9223372036854775807) (h : CdsAt w a l) :
    Calls Try.prog 19 #[.slice a l.length cap, .int .i64 k] w (RPickRes w (runtilC l k)) := by
  have hI := good_any a cap l w hL h
  rcases chk_two l with hc | hc
  · rw [hc] at hI
    simp only [decide_true] at hI
    by_cases hk : k < 0
    · have HR : Hid (runtilC l k = ([], 22)) := if_pos (.inr hk)
      clear hc h
      rw [HR.out]
      go_enter Try.func19, Try.ntmps19
      go_wp2_with fail
      refine hI.mono ?_
      rintro e w2 ⟨rfl, o2⟩
      clear hI
      go_wp2_with fail
      go_ret2
      exact ⟨none, 0, rfl, CdsAt.nil _ _, o2⟩
    · have HR : Hid (runtilC l k = ((orderF l).take (untilN (orderF l) k), 0)) := if_neg (by rw [hc]; simp; omega)
      have HG := Lib.hid (gd_chk hc)
      have hl5 := chk_len hc
      have HL := Lib.hid (len_order l)
      have HH := Lib.hid h
      have hOr := fun w2 (o2 : Only (fun _ => False) w w2) => order_any a cap l w2 hl5 (HH.out.onlyF o2) HG.out
      have HOr := Lib.hid hOr
      clear hc h hOr
      rw [HR.out]
      go_enter Try.func19, Try.ntmps19
      go_wp2_with fail
      refine hI.mono ?_
      rintro e w2 ⟨rfl, o2⟩
      clear hI
      go_wp2_with fail
      refine (HOr.out _ o2).mono ?_
      rintro e w3 ⟨v, rfl, hO, o3⟩
      obtain ⟨A, c, e, h1, -⟩ := cds_row hO rfl
      subst e
      have hcl : l.length ≤ c ∧ c ≤ maxLen ∨ (A = none ∧ l.length = 0 ∧ c = 0) := by
        rcases hO.2 with ⟨e1, e2⟩ | ⟨g, cap', cur, e1, _, _, e2, e3, _⟩
        · injection e1 with e1 e3 e4; exact .inr ⟨e1, by rw [← HL.out]; exact e2, e4⟩
        · injection e1 with e1 e4 e5; rw [HL.out] at e2; subst e5; exact .inl ⟨e2, e3⟩
      have hcl1 : l.length ≤ c := by rcases hcl with h | h; exact h.1; omega
      have hcl2 : c ≤ maxLen := by rcases hcl with h | h; exact h.2; rw [h.2.2]; exact Nat.zero_le _
      unfold maxLen at hcl2
      have H1 := Lib.hid h1
      have HGo : Hid (∀ x ∈ orderF l, Gd x) := fun x hx => HG.out x ((mem_orderF _ _).1 hx)
      clear hO h1 hcl
      rw [HL.out]
      generalize orderF l = out at *
      go_wp2_with fail
      go_loopw [1, 7] (fun rv nv wr => ∃ (n : Nat) (room : Int), n ≤ l.length ∧ rv = .int .i64 room ∧ nv = .int .i64 n ∧ -64 ≤ room ∧ room ≤ k ∧ Hid (untilN out k = n + untilN (out.drop n) room) ∧ Only (fun _ => False) w3 wr) (fun _ nv _ => l.length - (intOf nv).toNat)
      case atStart => exact ⟨0, k, Nat.zero_le _, rfl, rfl, by omega, Int.le_refl _, (by show untilN out k = 0 + untilN (out.drop 0) k; rw [List.drop_zero, Nat.zero_add]), Only.refl _ _⟩
      case round =>
        obtain ⟨n, room, hn, rfl, rfl, hr1, hr2, hE, o⟩ := hrel
        by_cases hlt : n < l.length
        · by_cases hr : 0 < room
          · have hlo : n < out.length := by rw [HL.out]; exact hlt
            obtain ⟨b, off, hA, z0, z1, z2, z3⟩ := (H1.out.onlyF o) n hlo
            obtain ⟨x1, x2, x3, x4, x5, x6⟩ := HGo.out _ (getD_mem hlo)
            have hE2 : Hid (untilN out k = (n + 1) + untilN (out.drop (n + 1)) (room - ((out.getD n Cd.zero).cap - (out.getD n Cd.zero).live))) := by
              show untilN out k = _
              have e1 : out.drop n = out.getD n Cd.zero :: out.drop (n + 1) := by
                rw [List.drop_eq_getElem_cons hlo, List.getD_eq_getElem?_getD, List.getElem?_eq_getElem hlo]; rfl
              rw [hE.out, e1]
              show n + (if 0 < room then _ else 0) = _
              rw [if_pos hr]
              omega
            subst hA
            generalize out.getD n Cd.zero = x at *
            have e1 : IntKind.i64.wrap (x.cap - x.live) = x.cap - x.live := IntWalk.i64_in _ (by omega)
            have e2 : IntKind.i64.wrap (room - (x.cap - x.live)) = room - (x.cap - x.live) := IntWalk.i64_in _ (by omega)
            have hlt1 : (n : Int) < (l.length : Int) := by omega
            clear hlo hE
            go_wp2_with fail
            go_region
            go_wp2_with fail
            go_roundw
            case rel => exact ⟨n + 1, _, by omega, rfl, by go_num, by omega, by omega, hE2.out, o.drew⟩
            case measure => simp [intOf]; omega
          · have hE2 : Hid (untilN out k = n) := by
              show untilN out k = n
              rw [hE.out]
              have : untilN (out.drop n) room = 0 := by
                cases out.drop n with
                | nil => rfl
                | cons y m => exact if_neg hr
              omega
            have hT : Hid ((out.take (untilN out k)).length = n) := by
              show (out.take (untilN out k)).length = n
              rw [List.length_take, hE2.out, HL.out]; omega
            clear hE
            go_wp2_with fail
            go_ret2
            exact ⟨A, c, tup_slice hT.out.symm, (H1.out.onlyF o).take _, (o2.trans o3).trans o⟩
        · have hE2 : Hid (untilN out k = n) := by
            show untilN out k = n
            rw [hE.out, List.drop_eq_nil_of_le (by rw [HL.out]; omega)]
            rfl
          have hT : Hid ((out.take (untilN out k)).length = n) := by
            show (out.take (untilN out k)).length = n
            rw [List.length_take, hE2.out, HL.out]; omega
          clear hE
          go_wp2_with fail
          go_ret2
          exact ⟨A, c, tup_slice hT.out.symm, (H1.out.onlyF o).take _, (o2.trans o3).trans o⟩
  · have HR : Hid (runtilC l k = ([], 22)) := if_pos (.inl (by rw [hc]; decide))
    rw [hc] at hI
    simp only [show decide ((22 : Int) = 0) = false from rfl] at hI
    clear hc h
    rw [HR.out]
    go_enter Try.func19, Try.ntmps19
    go_wp2_with fail
    refine hI.mono ?_
    rintro e w2 ⟨rfl, o2⟩
    clear hI
    go_wp2_with fail
    go_ret2
    exact ⟨none, 0, rfl, CdsAt.nil _ _, o2⟩
end Go.Proofs.Ytojhleijpcghoaa
