/- What an event of a kind makes of a life, as the table has it. Conditions: rows of at most eight hundred draws. -/
import Derived.Test.YthimmaffoehfaaaDoorPay
set_option linter.unusedVariables false
set_option linter.unusedSimpArgs false
set_option linter.unusedSectionVars false
namespace Go.Proofs.YthimmaffoehfaaaDoor
open Go.RowKit Go.Proofs.YthimmaffoehfaaaDoorW.PrintWords Go.Proofs.YthimmaffoehfaaaDoorW.PrintLast Go.Proofs.YthimmaffoehfaaaDoorW.PrintMore
open Q

def thenR (t : Tm) (s : LS) (ev : S41) (k : Int) : Int := if k = 2 then mayE t s.paid (evD ev) else if k = 7 then (if ev.f2 ≤ t.exp then 3 else 0) else 0
def thenS (t : Tm) (s : LS) (ev : S41) (k : Int) : LS :=
  if k = 0 then { s with st := 1 } else if k = 1 then { s with cf := true } else if k = 2 then (if mayE t s.paid (evD ev) = 0 then { s with dd := ev.f2, da := ev.f3, st := 2 } else s)
  else if k = 3 then { s with st := 3 } else if k = 4 then { s with st := 4 } else if k = 5 then { s with paid := s.paid ++ [⟨s.dd, s.da⟩], rp := false, st := 5 }
  else if k = 6 then (if ev.f1 = t.app then { s with st := 6 } else { s with rp := true }) else (if ev.f2 ≤ t.exp then s else { s with st := 7 })
theorem PSet.of {w : World} {B g : Nat} {t : Tm} {pv hv : Value} {r : Int} {s' : LS} {e : Ending} {w' : World} (h : Set w B g t pv hv r s' e w') : PSet w B g t hv r s' e w' := ⟨pv, h⟩

theorem then_any {w : World} {B g n : Nat} {t : Tm} {s : LS} {pv hv : Value} (h : LifeAt w B g t s pv hv) (hl : s.paid.length ≤ 800) (hk : KTab w n) (ev : S41) (k : Int) (h0 : 0 ≤ k) (h7 : k ≤ 7) :
    Calls Tryd.prog (thF k) (#[.pointer (some ⟨g, 0, none⟩), evV ev] ++ thC n k) w (PSet w B g t hv (thenR t s ev k) (thenS t s ev k)) := by
  rcases kind_cases h0 h7 with rfl | rfl | rfl | rfl | rfl | rfl | rfl | rfl
  · exact (to1_any h ev _ 1 hk.c0).mono fun e w' h => PSet.of h
  · exact (confirm_any h ev).mono fun e w' h => PSet.of h
  · exact (present_any h hl ev).mono fun e w' h => PSet.of h
  · exact (to1_any h ev _ 3 hk.c3).mono fun e w' h => PSet.of h
  · exact (to1_any h ev _ 4 hk.c4).mono fun e w' h => PSet.of h
  · exact pay_any h hl ev
  · exact (reimburse_any h ev).mono fun e w' h => PSet.of h
  · exact (expire_any h ev).mono fun e w' h => PSet.of h

theorem by_enter {k : Int} (h0 : 0 ≤ k) (h7 : k ≤ 7) (args : Array Value) (W : World) : (callFunc (byF k) args).run Tryd.prog W = .ok (.enter (byF k) args) W := by
  rcases kind_cases h0 h7 with rfl | rfl | rfl | rfl | rfl | rfl | rfl | rfl <;> kernel_rfl
theorem th_enter {k : Int} (h0 : 0 ≤ k) (h7 : k ≤ 7) (args : Array Value) (W : World) : (callFunc (thF k) args).run Tryd.prog W = .ok (.enter (thF k) args) W := by
  rcases kind_cases h0 h7 with rfl | rfl | rfl | rfl | rfl | rfl | rfl | rfl <;> kernel_rfl

def lateB (s : LS) (ev : S41) : Bool := match s.hist.getLast? with | none => false | some x => decide (ev.f2 < x.f2)
def doR (t : Tm) (s : LS) (ev : S41) : Int :=
  if rightB ev = false then 1 else if lateB s ev = true then 6 else if standsB t s ev.f0 = false then 9 else if ev.f1 = byB t s ev.f0 then thenR t s ev ev.f0 else 8
def doS (t : Tm) (s : LS) (ev : S41) : LS := if doR t s ev = 0 then { thenS t s ev ev.f0 with hist := s.hist ++ [ev] } else s
end Go.Proofs.YthimmaffoehfaaaDoor
