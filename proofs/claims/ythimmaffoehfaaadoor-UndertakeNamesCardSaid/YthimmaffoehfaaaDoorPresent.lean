/- An event that presents, and one that pays. Conditions: rows of at most eight hundred draws. -/
import Derived.Test.YthimmaffoehfaaaDoorClone
set_option linter.unusedVariables false
set_option linter.unusedSimpArgs false
set_option linter.unusedSectionVars false
namespace Go.Proofs.YthimmaffoehfaaaDoor
open Go.RowKit Go.Proofs.YthimmaffoehfaaaDoorW.PrintWords Go.Proofs.YthimmaffoehfaaaDoorW.PrintLast Go.Proofs.YthimmaffoehfaaaDoorW.PrintMore
open Q

def evD (ev : S41) : S47 := ⟨ev.f2, ev.f3⟩
theorem LifeAt.range {w : World} {B g : Nat} {t : Tm} {s : LS} {pv hv : Value} (h : LifeAt w B g t s pv hv) : w.rangeAt g 0 (crCells t).toList := by
  intro j v hj
  rw [Array.getElem?_toList] at hj
  rw [Nat.zero_add, h.cell]
  have hlt : j < 18 := (Array.getElem?_eq_some_iff.1 hj).1
  rw [← hj]
  have : lifeCells t s pv hv = crCells t ++ #[.int .i64 s.st, .bool s.cf, .bool s.rp, .int .i64 s.dd, .int .i64 s.da, pv, hv] := rfl
  rw [this, Array.getElem?_append_left hlt]
theorem wpStill_load_mid {P : Program} {ops : Array Oper} {rest : List Oper} {op : Oper} {a : Act} {w : World} {Q : Act → Prop} (hgd : op.guard = none) (ty : TypeId) (x : Operand) (ho : op.op = .load ty x)
    (b o : Nat) (hx : a.eval x = .pointer (some ⟨b, o, none⟩)) (cs : List Value) (d : TypeDesc) (hc : w.rangeAt b o cs)
    (hu : P.underlying ty = some d) (hd : d.isRow = true) (hi : (P.info? ty).map (·.size) = some cs.length)
    (h : wpStill P ops w Q rest (a.put op.dst (.agg cs.toArray))) : wpStill P ops w Q (op :: rest) a := by
  refine wpStill_step fun K hK => ?_
  have hw : Region.wanted op (yielded ops a.tmps) = true := by simp [Region.wanted, hgd]
  rw [if_pos hw]
  unfold Oper.still execOp
  simp only [ho, hx, Instr.loadAt, Instr.sureAddr, Sem.run_bind, Sem.run_pure, Result.andThen_ok, run_loadVar_mid w b o ty cs d hc hu hd hi]
  first
    | (rw [Oper.stillUpon_value]; exact hK _ h)
    | (exact ⟨rfl, hK _ h⟩)

set_option maxRecDepth 100000 in
set_option maxHeartbeats 2000000 in
theorem present_any {w : World} {B g : Nat} {t : Tm} {s : LS} {pv hv : Value} (h : LifeAt w B g t s pv hv) (hl : s.paid.length ≤ 800) (ev : S41) :
    Calls Tryd.prog 26 #[.pointer (some ⟨g, 0, none⟩), evV ev] w (Set w B g t pv hv (mayE t s.paid (evD ev)) (if mayE t s.paid (evD ev) = 0 then { s with dd := ev.f2, da := ev.f3, st := 2 } else s)) := by
  obtain ⟨A, c, hpv, hlc, hrd⟩ := Kd.R_reads h.paid
  have c23 : w.cell? ⟨g, 23, none⟩ = some pv := h.cell 23
  rw [hpv] at c23
  have hg := h.lt
  have H := Aside0.mk h
  have HL := Aside0.mk hl
  have HLC := Aside0.mk hlc
  have HRD := Aside0.mk hrd
  have HRG := Aside0.mk ((h.below (((Below.refl w.heap.size w).alloc (Nat.le_refl _) (evO ev)).alloc (by simp) (drO (evD ev)))).range)
  have HB := Aside0.mk (((Below.refl w.heap.size w).alloc (Nat.le_refl _) (evO ev)).alloc (by simp) (drO (evD ev)))
  have HM := Aside0.mk (fun (W : World) (hb : Below w.heap.size w W) => mayd_any A c t s.paid (evD ev) W (Kd.C_below hrd hb) hlc hl)
  clear h hl hlc hrd hpv
  obtain ⟨r, hr⟩ : ∃ r, r = mayE t s.paid (evD ev) := ⟨_, rfl⟩
  obtain ⟨s', hs⟩ : ∃ s', s' = if r = 0 then { s with dd := ev.f2, da := ev.f3, st := 2 } else s := ⟨_, rfl⟩
  rw [← hr] at HM ⊢
  rw [← hs]
  have HS := Aside0.mk hs
  clear hr hs
  go_enter Tryd.func26, Tryd.ntmps26
  go_wp2
  refine wp_region_still_tail 9 (by kernel_rfl) (by kernel_rfl) ?_
  simp only [List.take_succ_cons, List.take_zero, List.drop_succ_cons, List.drop_zero]
  change wpStill _ _ ((w.alloc (evO ev)).alloc (drO (evD ev))).drew _ _ _
  still_step
  still_step
  still_step
  refine wpStill_load_mid rfl 35 (.tmp 14) rfl g 0 rfl (crCells t).toList _ ((World.rangeAt_drew _ _ _ _).2 HRG.out) Tryd.underlying35 rfl (by kernel_rfl) ?_
  repeat still_step
  refine wpStill_nil ?_
  change wpList _ _ _ _ _ ((w.alloc (evO ev)).alloc (drO (evD ev))).drew
  go_wp2_with fail
  have HB1 : Aside0 (Below w.heap.size w ((w.alloc (evO ev)).alloc (drO (evD ev))).drew) := ⟨below_drew HB.out⟩
  refine (HM.out _ HB1.out).mono ?_
  rintro e w2 ⟨rfl, hb2⟩
  have HB2 : Aside0 (Below w.heap.size w w2) := ⟨HB1.out.trans (hb2.mono HB1.out.size)⟩
  have HL2 := Aside0.mk (H.out.below HB2.out)
  have hd2 : w2.heap[w.heap.size + 1]? = some (drO (evD ev)) := by
    rw [hb2.block _ (by show _ < (((w.alloc (evO ev)).alloc (drO (evD ev)))).heap.size; simp)]
    have := heap_alloc_new (w.alloc (evO ev)) (drO (evD ev))
    rw [World.size_alloc] at this
    exact this
  have d0 : w2.cell? ⟨w.heap.size + 1, 0, none⟩ = some (.int .i64 ev.f2) := by simp [World.cell?, hd2, evD]
  have d1 : w2.cell? ⟨w.heap.size + 1, 1, none⟩ = some (.int .i64 ev.f3) := by simp [World.cell?, hd2, evD]
  have e18 : w2.cell? ⟨g, 18, none⟩ = some (.int .i64 s.st) := HL2.out.cell 18
  have e21 : w2.cell? ⟨g, 21, none⟩ = some (.int .i64 s.dd) := HL2.out.cell 21
  have e22 : w2.cell? ⟨g, 22, none⟩ = some (.int .i64 s.da) := HL2.out.cell 22
  have f18 := HL2.out.free 18
  have f21 := HL2.out.free 21
  have f22 := HL2.out.free 22
  clear hb2 hd2 c23
  by_cases hr : r = 0
  · have HS2 : Aside0 (s' = { s with dd := ev.f2, da := ev.f3, st := 2 }) := ⟨by rw [HS.out, if_pos hr]⟩
    subst hr
    go_wp2
    go_ret
    rw [HS2.out]
    exact ⟨rfl, set_st (set_da (set_dd HL2.out ev.f2) ev.f3) 2, ((((Turns.of_below HB2.out).trans (turns_set _ g 21 _)).trans (turns_set _ g 22 _)).trans (turns_set _ g 18 _))⟩
  · have HS2 : Aside0 (s' = s) := ⟨by rw [HS.out, if_neg hr]⟩
    go_wp2
    go_ret
    rw [HS2.out]
    exact ⟨rfl, HL2.out, Turns.of_below HB2.out⟩
end Go.Proofs.YthimmaffoehfaaaDoor
