/- The chapter's example, as the laws ask it first. Conditions: none. -/
import Derived.Test.YthimmaffoehfaaaDoorNew
set_option linter.unusedVariables false
set_option linter.unusedSimpArgs false
set_option linter.unusedSectionVars false
namespace Go.Proofs.YthimmaffoehfaaaDoor
open Go.RowKit Go.Proofs.YthimmaffoehfaaaDoorW.PrintWords Go.Proofs.YthimmaffoehfaaaDoorW.PrintLast Go.Proofs.YthimmaffoehfaaaDoorW.PrintMore
open Q

/-- An event, seen from a world that began at w: the life lies from B on, nothing older has turned. -/
theorem do_step {w W : World} {B g : Nat} {t : Tm} {s : LS} {pv hv : Value} (h : LifeAt W B g t s pv hv) (hb : Below B w W) (hl : s.paid.length ≤ 800) (hl2 : s.hist.length ≤ 800) (ev : S41) (hs : ev.f1.size ≤ 140737488351232) :
    Calls Tryd.prog 9 #[.pointer (some ⟨g, 0, none⟩), evV ev] W fun e W' => e = .returned (.int .i64 (doR t s ev)) ∧ ∃ pv' hv', LifeAt W' B g t (doS t s ev) pv' hv' ∧ Below B w W' := by
  refine (do_any h hl hl2 ev hs).mono ?_
  rintro e W' ⟨pv', hv', rfl, hL, hT, hat⟩
  refine ⟨rfl, pv', hv', hL, hb.trans (hT.below (Nat.le_of_lt (Nat.lt_of_le_of_lt h.gB h.lt)) fun k hk ho => ?_)⟩
  rcases ho with rfl | ho
  · have := h.gB; omega
  · have := (h.hlt k ho).2.1; omega

def t0 : Tm := ⟨⟨#[107]⟩, ⟨#[121]⟩, ⟨#[115]⟩, noT, 5, 0, 0, 9, false⟩
def a1 : S41 := ⟨0, ⟨#[107]⟩, 0, 0⟩
def a2 : S41 := ⟨2, ⟨#[115]⟩, 0, 5⟩
def a3 : S41 := ⟨4, ⟨#[107]⟩, 0, 0⟩
def a4 : S41 := ⟨5, ⟨#[107]⟩, 0, 0⟩
def s1 : LS := doS t0 newS a1
def s2 : LS := doS t0 s1 a2
def s3 : LS := doS t0 s2 a3
def s4 : LS := doS t0 s3 a4
theorem t0_may : mayB t0 = true := by kernel_rfl
theorem t0_named : Named t0 := by
  intro s hs
  simp [t0] at hs
  rcases hs with rfl | rfl | rfl | rfl <;> decide
theorem s1_r : doR t0 newS a1 = 0 := by kernel_rfl
theorem s2_r : doR t0 s1 a2 = 0 := by kernel_rfl
theorem s3_r : doR t0 s2 a3 = 0 := by kernel_rfl
theorem s4_r : doR t0 s3 a4 = 0 := by kernel_rfl
theorem s3_owes : owesB t0 s3 ⟨#[107]⟩ = true := by kernel_rfl
theorem s3_da : s3.da = 5 := by kernel_rfl
theorem s4_owes : owesB t0 s4 ⟨#[121]⟩ = true := by kernel_rfl
theorem s4_da : s4.da = 5 := by kernel_rfl
theorem s_len : newS.paid.length ≤ 800 ∧ newS.hist.length ≤ 800 ∧ s1.paid.length ≤ 800 ∧ s1.hist.length ≤ 800 ∧ s2.paid.length ≤ 800 ∧ s2.hist.length ≤ 800 ∧ s3.paid.length ≤ 800 ∧ s3.hist.length ≤ 800 := by
  refine ⟨?_, ?_, ?_, ?_, ?_, ?_, ?_, ?_⟩ <;> exact of_decide_eq_true (by kernel_rfl)

set_option maxRecDepth 100000 in
set_option maxHeartbeats 2000000 in
theorem awake_any (w : World) : Calls Tryd.prog 4 #[] w fun e w' => e = .returned (.bool true) ∧ Below w.heap.size w w' := by
  obtain ⟨l1, l2, l3, l4, l5, l6, l7, l8⟩ := s_len
  have HN := Aside0.mk (fun W => new_any t0 W t0_named t0_may)
  have HD1 := Aside0.mk (fun {W : World} {B g : Nat} {pv hv : Value} (h : LifeAt W B g t0 newS pv hv) (hb : Below B w W) => do_step h hb l1 l2 a1 (by decide))
  have HD2 := Aside0.mk (fun {W : World} {B g : Nat} {pv hv : Value} (h : LifeAt W B g t0 s1 pv hv) (hb : Below B w W) => do_step h hb l3 l4 a2 (by decide))
  have HD3 := Aside0.mk (fun {W : World} {B g : Nat} {pv hv : Value} (h : LifeAt W B g t0 s2 pv hv) (hb : Below B w W) => do_step h hb l5 l6 a3 (by decide))
  have HD4 := Aside0.mk (fun {W : World} {B g : Nat} {pv hv : Value} (h : LifeAt W B g t0 s3 pv hv) (hb : Below B w W) => do_step h hb l7 l8 a4 (by decide))
  rw [s1_r] at HD1
  rw [s2_r] at HD2
  rw [s3_r] at HD3
  rw [s4_r] at HD4
  clear l1 l2 l3 l4 l5 l6 l7 l8
  go_enter Tryd.func4, Tryd.ntmps4
  go_wp2_with fail
  refine (credit_any t0 w).mono ?_
  rintro e w1 ⟨rfl, hb1⟩
  have HB1 := Aside0.mk hb1
  clear hb1
  go_wp2_with fail
  refine (HN.out w1).mono ?_
  rintro e w2 ⟨g, rfl, hL, hb2⟩
  have HB2 : Aside0 (Below w.heap.size w w2) := ⟨HB1.out.trans (hb2.mono HB1.out.size)⟩
  have HL0 := Aside0.mk (hL.lower HB1.out.size)
  clear hL hb2
  go_wp2_with fail
  refine (HD1.out HL0.out HB2.out).mono ?_
  rintro e w3 ⟨rfl, pv1, hv1, hL, hb⟩
  have HL1 := Aside0.mk (show LifeAt w3 w.heap.size g t0 s1 pv1 hv1 from hL)
  have HB3 := Aside0.mk hb
  clear hL hb
  go_wp2_with fail
  refine (HD2.out HL1.out HB3.out).mono ?_
  rintro e w4 ⟨rfl, pv2, hv2, hL, hb⟩
  have HL2 := Aside0.mk (show LifeAt w4 w.heap.size g t0 s2 pv2 hv2 from hL)
  have HB4 := Aside0.mk hb
  clear hL hb
  go_wp2_with fail
  refine (HD3.out HL2.out HB4.out).mono ?_
  rintro e w5 ⟨rfl, pv3, hv3, hL, hb⟩
  have HL3 := Aside0.mk (show LifeAt w5 w.heap.size g t0 s3 pv3 hv3 from hL)
  have HB5 := Aside0.mk hb
  clear hL hb
  go_wp2_with fail
  have ho5 := owes_any HL3.out ⟨#[107]⟩
  rw [s3_owes, if_pos rfl, s3_da] at ho5
  refine ho5.mono ?_
  clear ho5
  rintro e w' ⟨rfl, rfl⟩
  go_wp2_with fail
  refine (HD4.out HL3.out HB5.out).mono ?_
  rintro e w6 ⟨rfl, pv4, hv4, hL, hb⟩
  have HL4 := Aside0.mk (show LifeAt w6 w.heap.size g t0 s4 pv4 hv4 from hL)
  have HB6 := Aside0.mk hb
  clear hL hb
  go_wp2_with fail
  have ho6 := owes_any HL4.out ⟨#[121]⟩
  rw [s4_owes, if_pos rfl, s4_da] at ho6
  refine ho6.mono ?_
  clear ho6
  rintro e w' ⟨rfl, rfl⟩
  go_wp2
  go_ret
  exact ⟨rfl, HB6.out⟩
end Go.Proofs.YthimmaffoehfaaaDoor
