/- A life, made: of a credit that may live; the credit itself; what happened, told. Conditions: texts as a machine can hold. -/
import Derived.Test.YthimmaffoehfaaaDoorDo
set_option linter.unusedVariables false
set_option linter.unusedSimpArgs false
set_option linter.unusedSectionVars false
namespace Go.Proofs.YthimmaffoehfaaaDoor
open Go.RowKit Go.Proofs.YthimmaffoehfaaaDoorW.PrintWords Go.Proofs.YthimmaffoehfaaaDoorW.PrintLast Go.Proofs.YthimmaffoehfaaaDoorW.PrintMore
open Q

abbrev teCells (t : Tm) : Array Value := #[.string t.iss, .string t.app, .string t.ben, .string t.cnf, .int .i64 t.sum, .int .i64 t.abv, .int .i64 t.blw, .int .i64 t.exp, .bool t.prt]
abbrev teO (t : Tm) : Obj := .cells (teCells t) 37
def zCr : Array Value := #[.string noT, .string noT, .string noT, .string noT, .string noT, .string noT, .string noT, .string noT, .int .i64 0, .int .i64 0, .int .i64 0, .int .i64 0, .int .i64 0, .int .i64 0, .int .i64 0, .bool false, .bool false, .slice none 0 0]
theorem cr_one (t : Tm) : (crCells t).all (·.oneCell') = true := by
  simp [Value.oneCell']

set_option maxHeartbeats 2000000 in
theorem credit_any (t : Tm) (w : World) : Calls Tryd.prog 8 #[.agg (teCells t)] w fun e w' => e = .returned (crV t) ∧ Below w.heap.size w w' := by
  have HTH := Aside0.mk (there_of_block (w := (w.alloc (teO t)).alloc (.cells zCr 35)) (g := w.heap.size + 1) (t := 35) (cs := zCr) (by have := heap_alloc_new (w.alloc (teO t)) (.cells zCr 35); rwa [World.size_alloc] at this))
  have HB := Aside0.mk (setCells_below w w.heap.size (w.heap.size + 1) (by omega) (crCells t).toList ((w.alloc (teO t)).alloc (.cells zCr 35)) 0 (((Below.refl w.heap.size w).alloc (Nat.le_refl _) (teO t)).alloc (by simp) (.cells zCr 35)))
  have HR := Aside0.mk (World.rangeAt_setCells_same ((w.alloc (teO t)).alloc (.cells zCr 35)) (w.heap.size + 1) 0 (crCells t).toList HTH.out)
  have hone := Aside0.mk (cr_one t)
  go_enter Tryd.func8, Tryd.ntmps8
  go_wp2_with ((with_reducible refine gate_store (t := 35) (p := 2) (v := .tmp 22) rfl ?_); refine wpList_store_mid (op := _) (w := (w.alloc (teO t)).alloc (.cells zCr 35)) rfl 35 (.tmp 2) (.tmp 22) rfl (w.heap.size + 1) 0 (crCells t) ?hx ?hy HTH.out ?hi hone.out ?_; (case hx => rfl); (case hy => rfl); (case hi => kernel_rfl); (generalize ((w.alloc (teO t)).alloc (.cells zCr 35)).setCells (w.heap.size + 1) 0 (crCells t).toList = W1 at HB HR ⊢))
  have hrun := run_loadVar_mid (P := Tryd.prog) W1 (w.heap.size + 1) 0 35 (crCells t).toList _ HR.out Tryd.underlying35 rfl (by kernel_rfl)
  exact bodyPost_ret (v := crV t) (by simp [results, Tryd.results8, asAddr, hrun, Act.put]) rfl ⟨rfl, HB.out⟩

def newS : LS := ⟨0, false, false, 0, 0, [], []⟩
theorem life_new (w : World) (t : Tm) : LifeAt (w.alloc (.cells (lifeCells t newS (.slice none 0 0) (.slice none 0 0)) 51)) w.heap.size w.heap.size t newS (.slice none 0 0) (.slice none 0 0) where
  blk := heap_alloc_new _ _
  gB := Nat.le_refl _
  paid := Kd.R_nil _ _ _ _ _
  hist := Kd.R_nil _ _ _ _ _
theorem LifeAt.lower {w : World} {B B' g : Nat} {t : Tm} {s : LS} {pv hv : Value} (h : LifeAt w B g t s pv hv) (hB : B' ≤ B) : LifeAt w B' g t s pv hv := ⟨h.blk, Nat.le_trans hB h.gB, Kd.R_lower h.paid hB, Kd.R_lower h.hist hB⟩

set_option maxRecDepth 100000 in
set_option maxHeartbeats 2000000 in
theorem new_any (t : Tm) (w : World) (hs : Named t) (hm : mayB t = true) : Calls Tryd.prog 7 #[crV t] w fun e w' => ∃ g, e = .returned (.tuple #[.pointer (some ⟨g, 0, none⟩), .int .i64 0]) ∧ LifeAt w' w.heap.size g t newS (.slice none 0 0) (.slice none 0 0) ∧ Below w.heap.size w w' := by
  have HB := Aside0.mk ((Below.refl w.heap.size w).alloc (Nat.le_refl _) (crO t))
  have HH := Aside0.mk (heap_alloc_new w (crO t))
  have HMA := Aside0.mk (fun W => may_any t W hs)
  rw [hm] at HMA
  clear hs hm
  go_enter Tryd.func7, Tryd.ntmps7
  go_wp2_with ((with_reducible refine gate_dst (N := 4) rfl ?_); refine wpList_load_mid rfl 35 (.tmp 1) rfl w.heap.size 0 rfl (crCells t).toList _ (cr_range HH.out) Tryd.underlying35 rfl (by kernel_rfl) ?_)
  refine (HMA.out _).mono ?_
  rintro e w1 ⟨rfl, hb1⟩
  have hh1 := (hb1.block w.heap.size (by simp)).trans HH.out
  have HH1 := Aside0.mk hh1
  have HB1 := Aside0.mk (HB.out.trans (hb1.mono (by simp)))
  have c17 : w1.cell? ⟨w.heap.size, 17, none⟩ = some (.slice none 0 0) := by simp [World.cell?, hh1]
  have f17 := frozen_of_row w1 w.heap.size 17 _ _ hh1
  have hset : (w1.setCell ⟨w.heap.size, 17, none⟩ (.slice none 0 0)).heap[w.heap.size]? = some (crO t) := by
    rw [heap_setCell_same w1 w.heap.size 17 _ _ _ hh1]
    rfl
  have HSE := Aside0.mk hset
  clear hb1 hh1 hset
  go_wp2_with ((with_reducible refine gate_dst (N := 8) rfl ?_); refine wpList_load_mid rfl 35 (.tmp 1) rfl w.heap.size 0 rfl (crCells t).toList _ (cr_range HSE.out) Tryd.underlying35 rfl (by kernel_rfl) ?_)
  go_ret2
  have hz : (w1.setCell ⟨w.heap.size, 17, none⟩ (.slice none 0 0)).heap.size = w1.heap.size := by simp [World.setCell]
  have hL := life_new (w1.setCell ⟨w.heap.size, 17, none⟩ (.slice none 0 0)) t
  rw [hz] at hL
  exact ⟨w1.heap.size, rfl, hL.lower HB1.out.size, (HB1.out.setCell (p := ⟨w.heap.size, 17, none⟩) (Nat.le_refl _) _).alloc (by rw [hz]; exact HB1.out.size) _⟩

end Go.Proofs.YthimmaffoehfaaaDoor
