/- Draws: may they be, and their sum; the least that is to be drawn. Conditions: rows of at most a thousand draws. -/
import Derived.Test.YthimmaffoehfaaaDoorStands
import Derived.Test.YthimmaffoehfaaaDoorQDraw
set_option linter.unusedVariables false
set_option linter.unusedSimpArgs false
set_option linter.unusedSectionVars false
namespace Go.Proofs.YthimmaffoehfaaaDoor
open Go.RowKit Go.Proofs.YthimmaffoehfaaaDoorW.PrintWords Go.Proofs.YthimmaffoehfaaaDoorW.PrintLast Go.Proofs.YthimmaffoehfaaaDoorW.PrintMore
open Q

def drawsB : Option Int → List S47 → Bool
  | _, [] => true
  | p, d :: l => ((withinB d.f1 1 1099511627776 && withinB d.f0 0 1048576) && (match p with | none => true | some q => !decide (d.f0 < q))) && drawsB (some d.f0) l
theorem drawsB_cons (p : Option Int) (d : S47) (l : List S47) : drawsB p (d :: l) = (((withinB d.f1 1 1099511627776 && withinB d.f0 0 1048576) && (match p with | none => true | some q => !decide (d.f0 < q))) && drawsB (some d.f0) l) := by
  cases p <;> rfl
def sumD : List S47 → Int
  | [] => 0
  | d :: l => d.f1 + sumD l

theorem rd_draw {l : List S47} {i : Nat} (h : i < l.length) : l.drop i = rd_T47 l (i : Int) :: l.drop (i + 1) := by
  rw [List.drop_eq_getElem_cons h]
  unfold rd_T47
  rw [Int.toNat_natCast, List.getD_eq_getElem?_getD, List.getElem?_eq_getElem h]
  rfl
theorem within_f (n a b : Int) : allow_within.f n a b = some (withinB n a b) := by
  unfold allow_within.f withinB
  split
  · rename_i h; simp [show a ≤ n from h]
  · rename_i h; simp [show ¬ a ≤ n from h]

def prevD (l : List S47) (i : Nat) : Option Int := if i = 0 then none else some (rd_T47 l ((i - 1 : Nat) : Int)).f0
theorem prevD_succ (l : List S47) (i : Nat) : prevD l (i + 1) = some (rd_T47 l (i : Int)).f0 := by
  unfold prevD
  rw [if_neg (by omega), Nat.add_sub_cancel]

theorem right_loop (l : List S47) (hl : l.length ≤ 1000) (d : Nat) : ∀ (k i : Nat), i ≤ l.length → l.length - i = d → d < k → allow_right.l0 k l l (l.length : Int) (i : Int) = some (drawsB (prevD l i) (l.drop i)) := by
  induction d with
  | zero =>
    intro k i hi hd hk
    obtain ⟨k, rfl⟩ : ∃ m, k = m + 1 := ⟨k - 1, by omega⟩
    rw [allow_right.l0, if_neg (by omega), show l.drop i = [] from List.drop_eq_nil_of_le (by omega)]
    simp [drawsB]; omega
  | succ d ih =>
    intro k i hi hd hk
    obtain ⟨k, rfl⟩ : ∃ m, k = m + 1 := ⟨k - 1, by omega⟩
    have hlt : i < l.length := by omega
    have ih := ih k (i + 1) (by omega) (by omega) (by omega)
    rw [prevD_succ] at ih
    rw [allow_right.l0, if_pos (by omega), if_pos (by omega), if_pos (by omega), wrap_one (by omega) (by omega), rd_draw hlt, within_f, within_f]
    simp only [Option.bind_some]
    rw [show ((i : Int) + 1) = ((i + 1 : Nat) : Int) by omega, ih]
    rw [drawsB_cons]
    cases h1 : withinB (rd_T47 l (i : Int)).f1 1 1099511627776 with
    | false => simp
    | true =>
      cases h2 : withinB (rd_T47 l (i : Int)).f0 0 1048576 with
      | false => simp
      | true =>
        by_cases h0 : i = 0
        · subst h0
          simp [prevD]
        · have hw : wrap64 ((i : Int) - 1) = ((i - 1 : Nat) : Int) := by unfold wrap64; omega
          rw [if_pos rfl, if_pos rfl, if_pos (by omega), hw, if_pos (by omega), if_pos (by omega)]
          unfold prevD
          rw [if_neg h0]
          by_cases h3 : (rd_T47 l (i : Int)).f0 < (rd_T47 l ((i - 1 : Nat) : Int)).f0
          · rw [if_pos h3]; simp [h3]
          · rw [if_neg h3]; simp [h3]
theorem draws_any (A : Option Addr) (c : Nat) (l : List S47) (w : World) (hr : Kd.C k47 w A l.length l) (hc : l.length ≤ c) (hl : l.length ≤ 1000) :
    Calls Tryd.prog 45 #[.slice A l.length c] w fun e w' => e = .returned (.bool (drawsB none l)) ∧ Below w.heap.size w w' := by
  have h := right_loop l hl l.length (l.length + 1) 0 (by omega) (by omega) (by omega)
  have h2 := allow_right.calls (l.length + 1) A c l (drawsB none l) w hr hc (by unfold allow_right.f; rw [show (0 : Int) = ((0 : Nat) : Int) from rfl, h]; simp [prevD])
  exact h2.mono fun e w' h => h

def boundedD (l : List S47) : Prop := ∀ d ∈ l, 1 ≤ d.f1 ∧ d.f1 ≤ 1099511627776
theorem draws_bounded (l : List S47) : ∀ p, drawsB p l = true → boundedD l := by
  induction l with
  | nil => intro p h d hd; cases hd
  | cons x l ih =>
    intro p h d hd
    rw [drawsB_cons] at h
    simp only [Bool.and_eq_true] at h
    rcases List.mem_cons.1 hd with rfl | hd
    · have := h.1.1.1
      simp [withinB] at this
      exact this
    · exact ih _ h.2 d hd
theorem sumD_bound (l : List S47) (h : boundedD l) : 0 ≤ sumD l ∧ sumD l ≤ l.length * 1099511627776 := by
  induction l with
  | nil => simp [sumD]
  | cons x l ih =>
    have h1 := h x (by simp)
    have h2 := ih fun d hd => h d (by simp [hd])
    simp only [sumD, List.length_cons]
    omega
theorem sum_loop (l : List S47) (hl : l.length ≤ 1000) (hb : boundedD l) (d : Nat) : ∀ (k i : Nat) (n : Int), i ≤ l.length → l.length - i = d → d < k → 0 ≤ n → n ≤ i * 1099511627776 → allow_sum.l0 k n l (l.length : Int) (i : Int) = some (n + sumD (l.drop i)) := by
  induction d with
  | zero =>
    intro k i n hi hd hk _ _
    obtain ⟨k, rfl⟩ : ∃ m, k = m + 1 := ⟨k - 1, by omega⟩
    rw [allow_sum.l0, if_neg (by omega), show l.drop i = [] from List.drop_eq_nil_of_le (by omega)]
    simp [sumD]
  | succ d ih =>
    intro k i n hi hd hk h0 hn
    obtain ⟨k, rfl⟩ : ∃ m, k = m + 1 := ⟨k - 1, by omega⟩
    have hlt : i < l.length := by omega
    have hm : rd_T47 l (i : Int) ∈ l := by
      have := rd_draw hlt
      have h2 : rd_T47 l (i : Int) ∈ l.drop i := by rw [this]; simp
      exact List.mem_of_mem_drop h2
    have hx := hb _ hm
    have hi1 : (i : Int) ≤ 1000 := by omega
    rw [allow_sum.l0, if_pos (by omega), if_pos (by omega), if_pos (by omega), wrap_one (by omega) (by omega), rd_draw hlt, show wrap64 (n + (rd_T47 l (i : Int)).f1) = n + (rd_T47 l (i : Int)).f1 by unfold wrap64; omega,
      show ((i : Int) + 1) = ((i + 1 : Nat) : Int) by omega, ih k (i + 1) _ (by omega) (by omega) (by omega) (by omega) (by push_cast; omega)]
    simp only [sumD]
    rw [Int.add_assoc]
theorem sum_any (A : Option Addr) (c : Nat) (l : List S47) (w : World) (hr : Kd.C k47 w A l.length l) (hc : l.length ≤ c) (hl : l.length ≤ 1000) (hb : boundedD l) :
    Calls Tryd.prog 49 #[.slice A l.length c] w fun e w' => e = .returned (.int .i64 (sumD l)) ∧ Below w.heap.size w w' := by
  have h := sum_loop l hl hb l.length (l.length + 1) 0 0 (by omega) (by omega) (by omega) (by omega) (by omega)
  exact (allow_sum.calls (l.length + 1) A c l (sumD l) w hr hc (by unfold allow_sum.f; rw [show (0 : Int) = ((0 : Nat) : Int) from rfl]; rw [show ((0 : Nat) : Int) = 0 from rfl] at h ⊢; rw [h]; simp)).mono fun e w' h => h

def leastI (t : Tm) : Int := (t.sum * (1000 - t.blw) + 1000 - 1) / 1000
theorem least_facts {t : Tm} (h : boundsB t = true) : 0 ≤ t.sum * (1000 - t.blw) ∧ t.sum * (1000 - t.blw) ≤ 1099511627776000 := by
  obtain ⟨h1, h2, h3, h4, h5, h6, _⟩ := bounds_facts h
  constructor
  · exact Int.mul_nonneg (by omega) (by omega)
  · have := Int.mul_le_mul h2 (show 1000 - t.blw ≤ 1000 by omega) (by omega) (by omega)
    omega
set_option maxRecDepth 100000 in
theorem least_any (t : Tm) (w : World) (hb : boundsB t = true) : Calls Tryd.prog 51 #[crV t] w fun e w' => e = .returned (.int .i64 (leastI t)) ∧ Below w.heap.size w w' := by
  obtain ⟨q1, q2, _, _, q5, q6, _⟩ := bounds_facts hb
  obtain ⟨m1, m2⟩ := least_facts hb
  have key : ∀ x, x = leastI t → Ending.returned (.int .i64 x) = Ending.returned (.int .i64 (leastI t)) := fun x h => by rw [h]
  clear hb
  obtain ⟨iss, app, ben, cnf, sum, abv, blw, exp, prt⟩ := t
  simp only at q1 q2 q5 q6 m1 m2
  go_enter Tryd.func51, Tryd.ntmps51
  go_wp2
  go_ret
  refine ⟨key _ ?_, (Below.refl _ _).alloc (Nat.le_refl _) _⟩
  clear key
  rfl
end Go.Proofs.YthimmaffoehfaaaDoor
