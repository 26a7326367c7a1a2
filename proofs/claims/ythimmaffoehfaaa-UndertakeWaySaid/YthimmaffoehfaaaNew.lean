/- A life, made: of a credit that may live; the credit itself; what happened, told. Conditions: texts as a machine can hold. -/
import Derived.Test.YthimmaffoehfaaaDo
set_option linter.unusedVariables false
set_option linter.unusedSimpArgs false
set_option linter.unusedSectionVars false
namespace Go.Proofs.Ythimmaffoehfaaa
open Go.RowKit Go.Proofs.YthimmaffoehfaaaW.PrintWords Go.Proofs.YthimmaffoehfaaaW.PrintLast Go.Proofs.YthimmaffoehfaaaW.PrintMore
open Q

abbrev teCells (t : Tm) : Array Value := #[.string t.iss, .string t.app, .string t.ben, .string t.cnf, .int .i64 t.sum, .int .i64 t.abv, .int .i64 t.blw, .int .i64 t.exp, .bool t.prt]
abbrev teO (t : Tm) : Obj := .cells (teCells t) 23
def zCr : Array Value := #[.string noT, .string noT, .string noT, .string noT, .string noT, .string noT, .string noT, .string noT, .int .i64 0, .int .i64 0, .int .i64 0, .int .i64 0, .int .i64 0, .int .i64 0, .int .i64 0, .bool false, .bool false, .slice none 0 0]
theorem cr_one (t : Tm) : (crCells t).all (·.oneCell') = true := by
  simp [Value.oneCell']

set_option maxHeartbeats 2000000 in
theorem credit_any (t : Tm) (w : World) : Calls Try.prog 11 #[.agg (teCells t)] w fun e w' => e = .returned (crV t) ∧ Below w.heap.size w w' := by
  have HTH := Aside0.mk (there_of_block (w := (w.alloc (teO t)).alloc (.cells zCr 32)) (g := w.heap.size + 1) (t := 32) (cs := zCr) (by have := heap_alloc_new (w.alloc (teO t)) (.cells zCr 32); rwa [World.size_alloc] at this))
  have HB := Aside0.mk (setCells_below w w.heap.size (w.heap.size + 1) (by omega) (crCells t).toList ((w.alloc (teO t)).alloc (.cells zCr 32)) 0 (((Below.refl w.heap.size w).alloc (Nat.le_refl _) (teO t)).alloc (by simp) (.cells zCr 32)))
  have HR := Aside0.mk (World.rangeAt_setCells_same ((w.alloc (teO t)).alloc (.cells zCr 32)) (w.heap.size + 1) 0 (crCells t).toList HTH.out)
  have hone := Aside0.mk (cr_one t)
  go_enter Try.func11, Try.ntmps11
  go_wp2_with ((with_reducible refine gate_store (t := 32) (p := 2) (v := .tmp 22) rfl ?_); refine wpList_store_mid (op := _) (w := (w.alloc (teO t)).alloc (.cells zCr 32)) rfl 32 (.tmp 2) (.tmp 22) rfl (w.heap.size + 1) 0 (crCells t) ?hx ?hy HTH.out ?hi hone.out ?_; (case hx => rfl); (case hy => rfl); (case hi => kernel_rfl); (generalize ((w.alloc (teO t)).alloc (.cells zCr 32)).setCells (w.heap.size + 1) 0 (crCells t).toList = W1 at HB HR ⊢))
  have hrun := run_loadVar_mid (P := Try.prog) W1 (w.heap.size + 1) 0 32 (crCells t).toList _ HR.out Try.underlying32 rfl (by kernel_rfl)
  exact bodyPost_ret (v := crV t) (by simp [results, Try.results11, asAddr, hrun, Act.put]) rfl ⟨rfl, HB.out⟩

def newS : LS := ⟨0, false, false, 0, 0, [], []⟩
theorem life_new (w : World) (t : Tm) : LifeAt (w.alloc (.cells (lifeCells t newS (.slice none 0 0) (.slice none 0 0)) 64)) w.heap.size w.heap.size t newS (.slice none 0 0) (.slice none 0 0) where
  blk := heap_alloc_new _ _
  gB := Nat.le_refl _
  paid := Kd.R_nil _ _ _ _ _
  hist := Kd.R_nil _ _ _ _ _
theorem LifeAt.lower {w : World} {B B' g : Nat} {t : Tm} {s : LS} {pv hv : Value} (h : LifeAt w B g t s pv hv) (hB : B' ≤ B) : LifeAt w B' g t s pv hv := ⟨h.blk, Nat.le_trans hB h.gB, Kd.R_lower h.paid hB, Kd.R_lower h.hist hB⟩

set_option maxRecDepth 100000 in
set_option maxHeartbeats 2000000 in
theorem new_any (t : Tm) (w : World) (hs : Named t) (hm : mayB t = true) : Calls Try.prog 12 #[crV t] w fun e w' => ∃ g, e = .returned (.tuple #[.pointer (some ⟨g, 0, none⟩), .int .i64 0]) ∧ LifeAt w' w.heap.size g t newS (.slice none 0 0) (.slice none 0 0) ∧ Below w.heap.size w w' := by
  have HB := Aside0.mk ((Below.refl w.heap.size w).alloc (Nat.le_refl _) (crO t))
  have HH := Aside0.mk (heap_alloc_new w (crO t))
  have HMA := Aside0.mk (fun W => may_any t W hs)
  rw [hm] at HMA
  clear hs hm
  go_enter Try.func12, Try.ntmps12
  go_wp2_with ((with_reducible refine gate_dst (N := 4) rfl ?_); refine wpList_load_mid rfl 32 (.tmp 1) rfl w.heap.size 0 rfl (crCells t).toList _ (cr_range HH.out) Try.underlying32 rfl (by kernel_rfl) ?_)
  refine (HMA.out _).mono ?_
  rintro e w1 ⟨rfl, hb1⟩
  have hh1 := (hb1.block w.heap.size (by simp)).trans HH.out
  have HH1 := Aside0.mk hh1
  have HB1 := Aside0.mk (HB.out.trans (hb1.mono (by simp)))
  have c17 : w1.cell? ⟨w.heap.size, 17, none⟩ = some (.slice none 0 0) := by simp [World.cell?, hh1]
  have f17 := frozen_of_row w1 w.heap.size 17 _ _ hh1
  have hset : (w1.setCell ⟨w.heap.size, 17, none⟩ (.slice none 0 0)).heap[w.heap.size]? = some (crO t) := by
    rw [heap_setCell_same w1 w.heap.size 17 _ _ _ hh1]
    rfl
  have HSE := Aside0.mk hset
  clear hb1 hh1 hset
  go_wp2_with ((with_reducible refine gate_dst (N := 8) rfl ?_); refine wpList_load_mid rfl 32 (.tmp 1) rfl w.heap.size 0 rfl (crCells t).toList _ (cr_range HSE.out) Try.underlying32 rfl (by kernel_rfl) ?_)
  go_ret2
  have hz : (w1.setCell ⟨w.heap.size, 17, none⟩ (.slice none 0 0)).heap.size = w1.heap.size := by simp [World.setCell]
  have hL := life_new (w1.setCell ⟨w.heap.size, 17, none⟩ (.slice none 0 0)) t
  rw [hz] at hL
  exact ⟨w1.heap.size, rfl, hL.lower HB1.out.size, (HB1.out.setCell (p := ⟨w.heap.size, 17, none⟩) (Nat.le_refl _) _).alloc (by rw [hz]; exact HB1.out.size) _⟩

theorem history_any {w : World} {B g : Nat} {t : Tm} {s : LS} {pv hv : Value} (h : LifeAt w B g t s pv hv) (hl : s.hist.length ≤ 1000) :
    Calls Try.prog 17 #[.pointer (some ⟨g, 0, none⟩)] w fun e w' => ∃ v, e = .returned v ∧ Kd.R k40 40 w' w.heap.size (fun _ => True) v s.hist ∧ Below w.heap.size w w' := by
  obtain ⟨A, c, hhv, hlc, hrd⟩ := Kd.R_reads h.hist
  have c24 : w.cell? ⟨g, 24, none⟩ = some hv := h.cell 24
  rw [hhv] at c24
  have HRD := Aside0.mk hrd
  have HL := Aside0.mk hl
  clear h hhv hlc hrd hl
  go_enter Try.func17, Try.ntmps17
  go_wp2_with fail
  refine (cloneE_any A c s.hist w HRD.out (by have := HL.out; omega)).mono ?_
  rintro e w1 ⟨v, rfl, hR, hb, _⟩
  have HR := Aside0.mk hR
  have HB := Aside0.mk hb
  clear hR hb c24
  go_wp2
  go_ret
  exact ⟨_, rfl, HR.out, HB.out⟩
end Go.Proofs.Ythimmaffoehfaaa
