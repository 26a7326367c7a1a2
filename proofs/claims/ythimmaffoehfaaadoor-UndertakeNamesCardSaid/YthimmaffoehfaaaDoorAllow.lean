/- A credit's bounds and the most that may be drawn under it, as the program reckons them. Conditions: none. -/
import Derived.Test.YthimmaffoehfaaaDoorUnlike
set_option linter.unusedVariables false
set_option linter.unusedSimpArgs false
set_option linter.unusedSectionVars false
namespace Go.Proofs.YthimmaffoehfaaaDoor
open Go.RowKit Go.Proofs.YthimmaffoehfaaaDoorW.PrintWords Go.Proofs.YthimmaffoehfaaaDoorW.PrintLast Go.Proofs.YthimmaffoehfaaaDoorW.PrintMore
open Q

/-- What a credit of the laws hangs on. -/
structure Tm where
  iss : ByteArray
  app : ByteArray
  ben : ByteArray
  cnf : ByteArray
  sum : Int
  abv : Int
  blw : Int
  exp : Int
  prt : Bool
abbrev noT : ByteArray := ⟨#[]⟩
abbrev crCells (t : Tm) : Array Value := #[.string noT, .string t.app, .string t.ben, .string t.iss, .string t.cnf, .string noT, .string noT, .string noT, .int .i64 t.sum, .int .i64 t.abv, .int .i64 t.blw, .int .i64 0, .int .i64 t.exp, .int .i64 0, .int .i64 0, .bool t.prt, .bool false, .slice none 0 0]
abbrev crV (t : Tm) : Value := .agg (crCells t)

def withinB (n a b : Int) : Bool := decide (a ≤ n) && decide (n ≤ b)
theorem within_any (n a b : Int) (w : World) : Calls Tryd.prog 41 #[.int .i64 n, .int .i64 a, .int .i64 b] w fun e w' => e = .returned (.bool (withinB n a b)) ∧ w = w' := by
  have key : ∀ x, x = withinB n a b → Ending.returned (.bool x) = Ending.returned (.bool (withinB n a b)) := fun x h => by rw [h]
  go_enter Tryd.func41, Tryd.ntmps41
  go_wp2
  all_goals
    go_ret
    refine ⟨key _ ?_, rfl⟩
    clear key
    unfold withinB
    first
      | (simp [*]; done)
      | (rw [Bool.eq_iff_iff]; simp; omega)

def boundsB (t : Tm) : Bool := ((withinB t.sum 1 1099511627776 && withinB t.abv 0 1000) && withinB t.blw 0 1000) && withinB t.exp 0 1048576

set_option maxRecDepth 100000 in
theorem bounds_any (t : Tm) (w : World) : Calls Tryd.prog 30 #[crV t] w fun e w' => e = .returned (.bool (boundsB t)) ∧ Below w.heap.size w w' := by
  obtain ⟨iss, app, ben, cnf, sum, abv, blw, exp, prt⟩ := t
  have key : ∀ x, x = boundsB ⟨iss, app, ben, cnf, sum, abv, blw, exp, prt⟩ → Ending.returned (.bool x) = Ending.returned (.bool (boundsB ⟨iss, app, ben, cnf, sum, abv, blw, exp, prt⟩)) := fun x h => by rw [h]
  go_enter Tryd.func30, Tryd.ntmps30
  go_wp2_with (go_at_call 41; refine (within_any _ _ _ _).mono ?_; rintro e w' ⟨rfl, rfl⟩)
  all_goals
    go_ret
    refine ⟨key _ ?_, (Below.refl _ _).alloc (Nat.le_refl _) _⟩
    clear key
    unfold boundsB
    simp [*]

def mostI (t : Tm) : Int := t.sum * (1000 + t.abv) / 1000
theorem bounds_facts {t : Tm} (h : boundsB t = true) : 1 ≤ t.sum ∧ t.sum ≤ 1099511627776 ∧ 0 ≤ t.abv ∧ t.abv ≤ 1000 ∧ 0 ≤ t.blw ∧ t.blw ≤ 1000 ∧ 0 ≤ t.exp ∧ t.exp ≤ 1048576 := by
  simp [boundsB, withinB] at h
  omega
theorem most_facts {t : Tm} (h : boundsB t = true) : 1000 ≤ t.sum * (1000 + t.abv) ∧ t.sum * (1000 + t.abv) ≤ 2199023255552000 := by
  obtain ⟨h1, h2, h3, h4, _⟩ := bounds_facts h
  constructor
  · have := Int.mul_le_mul h1 (show (1000 : Int) ≤ 1000 + t.abv by omega) (by omega) (by omega)
    omega
  · have := Int.mul_le_mul h2 (show 1000 + t.abv ≤ 2000 by omega) (by omega) (by omega)
    omega
set_option maxRecDepth 100000 in
theorem most_any (t : Tm) (w : World) (hb : boundsB t = true) : Calls Tryd.prog 31 #[crV t] w fun e w' => e = .returned (.int .i64 (mostI t)) ∧ Below w.heap.size w w' := by
  obtain ⟨q1, q2, q3, q4, _⟩ := bounds_facts hb
  obtain ⟨m1, m2⟩ := most_facts hb
  have key : ∀ x, x = mostI t → Ending.returned (.int .i64 x) = Ending.returned (.int .i64 (mostI t)) := fun x h => by rw [h]
  clear hb
  obtain ⟨iss, app, ben, cnf, sum, abv, blw, exp, prt⟩ := t
  simp only at q1 q2 q3 q4 m1 m2
  go_enter Tryd.func31, Tryd.ntmps31
  go_wp2
  go_ret
  refine ⟨key _ ?_, (Below.refl _ _).alloc (Nat.le_refl _) _⟩
  clear key
  rfl

def mayB (t : Tm) : Bool := unlikeB [] (if t.cnf.toList = [] then [t.iss, t.app, t.ben] else [t.iss, t.app, t.ben, t.cnf]) && boundsB t

/-- May an event be? -/
def rightB (h : S41) : Bool := ((((decide (0 ≤ h.f0) && decide (h.f0 ≤ 7)) && nameB h.f1) && decide (0 ≤ h.f2)) && decide (h.f2 ≤ 1048576)) && (if (h.f0 == 2) = true then decide (1 ≤ h.f3) && decide (h.f3 ≤ 1099511627776) else h.f3 == 0)
abbrev evV (h : S41) : Value := .agg #[.int .i64 h.f0, .string h.f1, .int .i64 h.f2, .int .i64 h.f3]
abbrev evO (h : S41) : Obj := .cells #[.int .i64 h.f0, .string h.f1, .int .i64 h.f2, .int .i64 h.f3] 41
set_option maxRecDepth 100000 in
theorem right_any (h : S41) (w : World) (hs : h.f1.size ≤ 140737488351232) : Calls Tryd.prog 12 #[evV h] w fun e w' => e = .returned (.bool (rightB h)) ∧ Below w.heap.size w w' := by
  obtain ⟨f0, f1, f2, f3⟩ := h
  have key : ∀ x, x = rightB ⟨f0, f1, f2, f3⟩ → Ending.returned (.bool x) = Ending.returned (.bool (rightB ⟨f0, f1, f2, f3⟩)) := fun x h => by rw [h]
  have HS := Aside0.mk hs
  clear hs
  go_enter Tryd.func12, Tryd.ntmps12
  go_wp2_with (go_at_call 19; refine (mark_any _ _ HS.out).mono ?_; rintro e w' ⟨rfl, rfl⟩)
  all_goals
    go_ret
    refine ⟨key _ ?_, (Below.refl _ _).alloc (Nat.le_refl _) _⟩
    clear key
    unfold rightB
    first
      | (simp [*]; done)
      | (simp_all; done)
      | (simp_all; omega)
      | (rw [Bool.eq_iff_iff]; simp [*]; omega)
end Go.Proofs.YthimmaffoehfaaaDoor
