/- What an event makes of a life: the functions that set a field or two. Conditions: none. -/
import Derived.Test.YthimmaffoehfaaaDoorLife
set_option linter.unusedVariables false
set_option linter.unusedSimpArgs false
set_option linter.unusedSectionVars false
namespace Go.Proofs.YthimmaffoehfaaaDoor
open Go.RowKit Go.Proofs.YthimmaffoehfaaaDoorW.PrintWords Go.Proofs.YthimmaffoehfaaaDoorW.PrintLast Go.Proofs.YthimmaffoehfaaaDoorW.PrintMore
open Q

section
variable {w : World} {B g : Nat} {t : Tm} {s : LS} {pv hv : Value}

theorem LifeAt.turn {w' : World} (h : LifeAt w B g t s pv hv) (o : Obj) : LifeAt (w.alloc o) B g t s pv hv := h.below ((Below.refl _ _).alloc (Nat.le_refl _) o)

theorem set_st (h : LifeAt w B g t s pv hv) (n : Int) : LifeAt (w.setCell ⟨g, 18, none⟩ (.int .i64 n)) B g t { s with st := n } pv hv := h.set 18 _ rfl rfl rfl
theorem set_cf (h : LifeAt w B g t s pv hv) (b : Bool) : LifeAt (w.setCell ⟨g, 19, none⟩ (.bool b)) B g t { s with cf := b } pv hv := h.set 19 _ rfl rfl rfl
theorem set_rp (h : LifeAt w B g t s pv hv) (b : Bool) : LifeAt (w.setCell ⟨g, 20, none⟩ (.bool b)) B g t { s with rp := b } pv hv := h.set 20 _ rfl rfl rfl
theorem set_dd (h : LifeAt w B g t s pv hv) (n : Int) : LifeAt (w.setCell ⟨g, 21, none⟩ (.int .i64 n)) B g t { s with dd := n } pv hv := h.set 21 _ rfl rfl rfl
theorem set_da (h : LifeAt w B g t s pv hv) (n : Int) : LifeAt (w.setCell ⟨g, 22, none⟩ (.int .i64 n)) B g t { s with da := n } pv hv := h.set 22 _ rfl rfl rfl

theorem turns_set (w : World) (g i : Nat) (v : Value) : Turns (fun k => k = g) w (w.setCell ⟨g, i, none⟩ v) := (Turns.refl _ w).set ⟨g, i, none⟩ v rfl
/-- What an event came to: its fault, the life as it stands, and that nothing else turned. -/
def Set (w : World) (B g : Nat) (t : Tm) (pv hv : Value) (r : Int) (s' : LS) (e : Ending) (w' : World) : Prop :=
  e = .returned (.int .i64 r) ∧ LifeAt w' B g t s' pv hv ∧ Turns (fun k => k = g) w w'

theorem to1_any (h : LifeAt w B g t s pv hv) (ev : S41) (b : Nat) (n : Int) (hb : w.heap[b]? = some (nums1 [n])) :
    Calls Tryd.prog 38 #[.pointer (some ⟨g, 0, none⟩), evV ev, .pointer (some ⟨b, 0, none⟩)] w (Set w B g t pv hv 0 { s with st := n }) := by
  have c18 : w.cell? ⟨g, 18, none⟩ = some (.int .i64 s.st) := h.cell 18
  have f18 := h.free 18
  have cb : w.cell? ⟨b, 0, none⟩ = some (.int .i64 n) := by simp [World.cell?, hb]
  have hbl : b < w.heap.size := (Array.getElem?_eq_some_iff.1 hb).1
  have hg := h.lt
  have H := Aside0.mk h
  clear h hb
  go_enter Tryd.func38, Tryd.ntmps38
  go_wp2
  go_ret
  exact ⟨rfl, (set_st H.out n).turn (w' := w) (evO ev), (turns_set w g 18 _).alloc _⟩
theorem confirm_any (h : LifeAt w B g t s pv hv) (ev : S41) :
    Calls Tryd.prog 24 #[.pointer (some ⟨g, 0, none⟩), evV ev] w (Set w B g t pv hv 0 { s with cf := true }) := by
  have c19 : w.cell? ⟨g, 19, none⟩ = some (.bool s.cf) := h.cell 19
  have f19 := h.free 19
  have hg := h.lt
  have H := Aside0.mk h
  clear h
  go_enter Tryd.func24, Tryd.ntmps24
  go_wp2
  go_ret
  exact ⟨rfl, (set_cf H.out true).turn (w' := w) (evO ev), (turns_set w g 19 _).alloc _⟩

theorem beq_text (a b : ByteArray) : (a.toList == b.toList) = decide (a = b) := by
  by_cases h : a = b
  · simp [h]
  · have : ¬ a.toList = b.toList := fun e => h (bytes_inj e)
    simp [h, this]

theorem reimburse_any (h : LifeAt w B g t s pv hv) (ev : S41) :
    Calls Tryd.prog 28 #[.pointer (some ⟨g, 0, none⟩), evV ev] w (Set w B g t pv hv 0 (if ev.f1 = t.app then { s with st := 6 } else { s with rp := true })) := by
  have c1 : w.cell? ⟨g, 1, none⟩ = some (.string t.app) := h.cell 1
  have c18 : w.cell? ⟨g, 18, none⟩ = some (.int .i64 s.st) := h.cell 18
  have c20 : w.cell? ⟨g, 20, none⟩ = some (.bool s.rp) := h.cell 20
  have f18 := h.free 18
  have f20 := h.free 20
  have hg := h.lt
  have H := Aside0.mk h
  clear h
  by_cases hq : ev.f1 = t.app
  · have hq2 : (ev.f1.toList == t.app.toList) = true := by rw [beq_text, decide_eq_true hq]
    have HQ := Aside0.mk hq
    rw [if_pos hq]
    clear hq
    go_enter Tryd.func28, Tryd.ntmps28
    go_wp2
    go_quiet (fail)
    go_wp2
    go_ret
    exact ⟨rfl, set_st ((H.out.turn (w' := w) (evO ev)).below (pw_below_drewN (Below.refl _ _) _)) 6, (((Turns.refl _ w).alloc _).drewN _).set _ _ rfl⟩
  · have hq2 : (ev.f1.toList == t.app.toList) = false := by rw [beq_text, decide_eq_false hq]
    have HQ := Aside0.mk hq
    rw [if_neg hq]
    clear hq
    go_enter Tryd.func28, Tryd.ntmps28
    go_wp2
    go_quiet (fail)
    go_wp2
    go_ret
    exact ⟨rfl, set_rp ((H.out.turn (w' := w) (evO ev)).below (pw_below_drewN (Below.refl _ _) _)) true, (((Turns.refl _ w).alloc _).drewN _).set _ _ rfl⟩

theorem expire_any (h : LifeAt w B g t s pv hv) (ev : S41) :
    Calls Tryd.prog 29 #[.pointer (some ⟨g, 0, none⟩), evV ev] w (Set w B g t pv hv (if ev.f2 ≤ t.exp then 3 else 0) (if ev.f2 ≤ t.exp then s else { s with st := 7 })) := by
  have c12 : w.cell? ⟨g, 12, none⟩ = some (.int .i64 t.exp) := h.cell 12
  have c18 : w.cell? ⟨g, 18, none⟩ = some (.int .i64 s.st) := h.cell 18
  have f18 := h.free 18
  have hg := h.lt
  have H := Aside0.mk h
  clear h
  by_cases hq : ev.f2 ≤ t.exp
  · rw [if_pos hq, if_pos hq]
    go_enter Tryd.func29, Tryd.ntmps29
    go_wp2
    go_quiet (fail)
    go_wp2
    go_ret
    exact ⟨rfl, (H.out.turn (w' := w) (evO ev)).below (pw_below_drewN (Below.refl _ _) _), ((Turns.refl _ w).alloc _).drewN _⟩
  · rw [if_neg hq, if_neg hq]
    go_enter Tryd.func29, Tryd.ntmps29
    go_wp2
    go_quiet (fail)
    go_wp2
    go_ret
    exact ⟨rfl, set_st ((H.out.turn (w' := w) (evO ev)).below (pw_below_drewN (Below.refl _ _) _)) 7, (((Turns.refl _ w).alloc _).drewN _).set _ _ rfl⟩

/-- How much a party owes, if it does. -/
def owesB (t : Tm) (s : LS) (p : ByteArray) : Bool := (s.st == 4 && decide (p = bankB t s)) || (s.st == 5 && decide (p = repB t s))
theorem owes_any (h : LifeAt w B g t s pv hv) (p : ByteArray) :
    Calls Tryd.prog 10 #[.pointer (some ⟨g, 0, none⟩), .string p] w fun e w' => e = .returned (.tuple #[.int .i64 (if owesB t s p = true then s.da else 0), .bool (owesB t s p)]) ∧ w = w' := by
  have c18 : w.cell? ⟨g, 18, none⟩ = some (.int .i64 s.st) := h.cell 18
  have c22 : w.cell? ⟨g, 22, none⟩ = some (.int .i64 s.da) := h.cell 22
  have HA := Aside0.mk (answers_any h)
  have HR := Aside0.mk (repays_any h)
  have hg := h.lt
  clear h
  obtain ⟨r, hr⟩ : ∃ r, r = owesB t s p := ⟨_, rfl⟩
  rw [← hr]
  have e1 := beq_text p (bankB t s)
  have e2 := beq_text p (repB t s)
  unfold owesB at hr
  rw [← e1, ← e2] at hr
  have HRR := Aside0.mk hr
  clear hr e1 e2
  go_enter Tryd.func10, Tryd.ntmps10
  go_wp2_with (first
    | (go_at_call 15; refine (HA.out).mono ?_; rintro e w' ⟨rfl, rfl⟩)
    | (go_at_call 16; refine (HR.out).mono ?_; rintro e w' ⟨rfl, rfl⟩))
  all_goals
    go_ret2
    have hr := HRR.out
    clear HRR HA HR
    refine ⟨?_, rfl⟩
    simp_all
end
end Go.Proofs.YthimmaffoehfaaaDoor
