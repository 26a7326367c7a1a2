/- The most that may be drawn under a credit, or the fault of its bounds. Conditions: none. -/
import Derived.Test.YthimmaffoehfaaaDoorAllow
import Derived.Deep.MidRow
set_option linter.unusedVariables false
set_option linter.unusedSimpArgs false
set_option linter.unusedSectionVars false
namespace Go.Proofs.YthimmaffoehfaaaDoor
open Go.RowKit Go.Proofs.YthimmaffoehfaaaDoorW.PrintWords Go.Proofs.YthimmaffoehfaaaDoorW.PrintLast Go.Proofs.YthimmaffoehfaaaDoorW.PrintMore
open Q

theorem cr_range {w : World} {g : Nat} {t : Tm} (h : w.heap[g]? = some (.cells (crCells t) 35)) : w.rangeAt g 0 (crCells t).toList := by
  intro j v hj
  rw [Array.getElem?_toList] at hj
  simp only [World.cell?, h, Nat.zero_add]
  exact hj

theorem most2_any (t : Tm) (w : World) : Calls Tryd.prog 17 #[crV t] w fun e w' => e = .returned (.tuple #[.int .i64 (if boundsB t then mostI t else 0), .int .i64 (if boundsB t then 0 else 1)]) ∧ Below w.heap.size w w' := by
  have HB := Aside0.mk ((Below.refl w.heap.size w).alloc (Nat.le_refl _) (.cells (crCells t) 35))
  have HH := Aside0.mk (heap_alloc_new w (.cells (crCells t) 35))
  have HBD := Aside0.mk (bounds_any t)
  have HMO := Aside0.mk (most_any t)
  obtain ⟨b, hb⟩ : ∃ b, b = boundsB t := ⟨_, rfl⟩
  rw [← hb] at HBD ⊢
  have HBE := Aside0.mk hb
  clear hb
  go_enter Tryd.func17, Tryd.ntmps17
  go_wp2_with ((with_reducible refine gate_dst (N := 4) rfl ?_); refine wpList_load_mid rfl 35 (.tmp 1) rfl w.heap.size 0 rfl (crCells t).toList _ (cr_range HH.out) Tryd.underlying35 rfl (by kernel_rfl) ?_)
  refine (HBD.out _).mono ?_
  rintro e w1 ⟨rfl, hb1⟩
  have hh1 := (hb1.block w.heap.size (by simp)).trans HH.out
  have HH1 := Aside0.mk hh1
  have HB1 := Aside0.mk (HB.out.trans (hb1.mono (by simp)))
  clear hb1 hh1
  cases b with
  | false =>
    go_wp2
    go_ret2
    exact ⟨rfl, HB1.out⟩
  | true =>
    go_wp2_with (first
      | ((with_reducible refine gate_dst (N := 7) rfl ?_); refine wpList_load_mid rfl 35 (.tmp 1) rfl w.heap.size 0 rfl (crCells t).toList _ (cr_range HH1.out) Tryd.underlying35 rfl (by kernel_rfl) ?_)
      | (go_at_call 31; refine (HMO.out w1 HBE.out.symm).mono ?_; rintro e w2 ⟨rfl, hb2⟩; have HB2 := Aside0.mk (HB1.out.trans (hb2.mono HB1.out.size)); clear hb2))
    go_ret2
    exact ⟨rfl, HB2.out⟩
end Go.Proofs.YthimmaffoehfaaaDoor
