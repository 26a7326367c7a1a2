/- What the condition on the table of classes gives: its rows' cells; a world that meets it. Conditions: none. -/
import Derived.Test.YtnhbbfbllkefcaaDoorApart
import Derived.Test.YtnhbbfbllkefcaaDoorRows
import Derived.WalkKit
import Derived.ChangeOld
import Derived.Below
import Derived.ChangeSame
import Derived.ChangeSlices
import Derived.SizedLaws
import Derived.ProofKit
import Derived.OpenShut
import Derived.ShutString
import Derived.LaidMore
set_option linter.unusedVariables false
set_option linter.unusedSimpArgs false
set_option linter.unusedSectionVars false
namespace Go.Proofs.YtnhbbfbllkefcaaDoor
open Go.RowKit Go.Proofs.YtnhbbfbllkefcaaDoorW.PrintWords Go.Proofs.YtnhbbfbllkefcaaDoorW.PrintLast Go.Proofs.YtnhbbfbllkefcaaDoorW.PrintMore
open Q

namespace Table
open Go.ChangeShapes Go.WideShapes Go.ChangeAt Go.RowKit
theorem own : ownKnob Tryd.prog.godebug = none := by kernel_rfl
theorem laidOut : laidOutB Tryd.prog = true := by kernel_rfl
theorem gApart : Tryd.prog.globalNamed "supercargo/goods.apart" = some 0 := by kernel_rfl
theorem tApart : (Tryd.prog.globals[0]?).map (·.type) = some 52 := by kernel_rfl
def laid1 : List (String × DataW Unit) := [("supercargo/goods.apart", Rows.laid_supercargo_goods_apart)]
theorem door_met (os : Os) (args : Array Value) : laidMetH Tryd.prog laid1 ((World.doorLaid Tryd.prog 400 os).forCall (fun _ _ => 0) ⟨#[], args, []⟩).memory :=
  laidMetH_of_parts3 (fuel := 8) (laidMet_of_run' 8 (by kernel_rfl) (by kernel_rfl)) (by kernel_rfl) (by kernel_rfl)
theorem lits_inj {a b : List Int} (h : (lits .i64 a : List (DataW Unit)) = lits .i64 b) : a = b := by
  unfold lits at h
  exact (List.map_inj_right (fun x y e => by simpa using e)).1 h
theorem row_at {W : World} {m : Nat} {k : Value} {x : DataW Unit × List MemPlace} (row : List Int) (ht : DataW.trod (fun _ => ()) Tryd.prog W 0 (fun _ => true) false m 47 [k] = some x) (hx : (row = [] ∧ x.1 = .nil) ∨ x.1 = .slice (lits .i64 row) []) (hl : row.length ≤ 1000) :
    ∃ A c, k = .slice A row.length c ∧ row.length ≤ c ∧ Kd.C (Kd.int .i64) W A row.length row := by
  rcases open_ints Tryd.underlying47 Tryd.underlying3 (by kernel_rfl) ht with ⟨hcs, rfl⟩ | ⟨a, len, cap, zs, hcs, _, hlc, _, hzl, rfl, hcell, _⟩
  · obtain rfl : k = .slice none 0 0 := by simpa using hcs
    rcases hx with ⟨rfl, _⟩ | hx
    · exact ⟨none, 0, rfl, Nat.le_refl _, rfl, by decide, fun h => absurd h (by simp)⟩
    · cases hx
  · obtain rfl : k = .slice (some a) len cap := by simpa using hcs
    rcases hx with ⟨_, hx⟩ | hx
    · cases hx
    · simp only [DataW.slice.injEq] at hx
      have hrow : zs.take len = row := lits_inj hx.1
      rw [if_pos rfl] at hzl
      have hlen : row.length = len := by rw [← hrow, List.length_take]; omega
      refine ⟨some a, cap, by rw [hlen], by omega, rfl, by omega, fun _ => ⟨a, rfl, fun j p hj => ⟨[.int .i64 p], rfl, rfl, fun i u hu => ?_⟩⟩⟩
      have hjl : j < row.length := (List.getElem?_eq_some_iff.1 hj).1
      have hi : i = 0 := by
        have := (List.getElem?_eq_some_iff.1 hu).1
        simp at this
        omega
      subst hi
      have hu2 : Value.int .i64 p = u := by simpa using hu
      have hc := hcell j (by omega)
      have hz : zs.getD j 0 = p := by
        rw [← hrow, List.getElem?_take] at hj
        rw [if_pos (by omega)] at hj
        rw [List.getD_eq_getElem?_getD, hj]
        rfl
      rw [hz, hu2] at hc
      have e : j * (Kd.int .i64).sz + 0 = j := by show j * 1 + 0 = j; omega
      rw [e]
      exact hc
set_option maxRecDepth 100000 in
set_option maxHeartbeats 1000000 in
theorem of_laid {W : World} (h : laidMetH Tryd.prog laid1 W) : AptAt W := by
  rw [MakeChecks.laidMetH_plain _ _ _ (by kernel_rfl)] at h
  obtain ⟨ps, ⟨g0, t0, cs0, f0, p0, q0, hg0, ht0, hv0, hd0, _, _⟩, _, _⟩ := h
  obtain rfl := Option.some.inj (gApart.symm.trans hg0)
  obtain rfl := Option.some.inj (tApart.symm.trans ht0)
  obtain ⟨xs, m1, rfl, hx1, hlen, hn, hel⟩ := DataW.trod_array Tryd.underlying52 hd0
  have c47 : Tryd.prog.cellsOf 47 = 1 := by kernel_rfl
  have c52 : Tryd.prog.cellsOf 52 = 10 := by kernel_rfl
  rw [c47] at hel
  rw [c52] at hlen
  simp only [Prod.mk.injEq, Rows.laid_supercargo_goods_apart, DataW.agg.injEq] at hx1
  obtain ⟨l⟩ := cs0
  match l, hlen with
  | [k0, k1, k2, k3, k4, k5, k6, k7, k8, k9], _ =>
    match xs, hn with
    | [x0, x1, x2, x3, x4, x5, x6, x7, x8, x9], _ =>
      have t0 := hel 0 (by omega)
      have t1 := hel 1 (by omega)
      have t2 := hel 2 (by omega)
      have t3 := hel 3 (by omega)
      have t4 := hel 4 (by omega)
      have t5 := hel 5 (by omega)
      have t6 := hel 6 (by omega)
      have t7 := hel 7 (by omega)
      have t8 := hel 8 (by omega)
      have t9 := hel 9 (by omega)
      simp only [List.map_cons, List.map_nil, List.cons.injEq] at hx1
      obtain ⟨⟨h0, h1, h2, h3, h4, h5, h6, h7, h8, h9, _⟩, _⟩ := hx1
      have e0 := row_at (aptRow 0) (k := k0) (by simpa using t0) (.inl ⟨rfl, h0.symm⟩) (by decide)
      have e1 := row_at (aptRow 1) (k := k1) (by simpa using t1) (.inr h1.symm) (by decide)
      have e2 := row_at (aptRow 2) (k := k2) (by simpa using t2) (.inr h2.symm) (by decide)
      have e3 := row_at (aptRow 3) (k := k3) (by simpa using t3) (.inr h3.symm) (by decide)
      have e4 := row_at (aptRow 4) (k := k4) (by simpa using t4) (.inr h4.symm) (by decide)
      have e5 := row_at (aptRow 5) (k := k5) (by simpa using t5) (.inr h5.symm) (by decide)
      have e6 := row_at (aptRow 6) (k := k6) (by simpa using t6) (.inl ⟨rfl, h6.symm⟩) (by decide)
      have e7 := row_at (aptRow 7) (k := k7) (by simpa using t7) (.inr h7.symm) (by decide)
      have e8 := row_at (aptRow 8) (k := k8) (by simpa using t8) (.inl ⟨rfl, h8.symm⟩) (by decide)
      have e9 := row_at (aptRow 9) (k := k9) (by simpa using t9) (.inl ⟨rfl, h9.symm⟩) (by decide)
      have key : ∀ (i : Nat) (k : Value), ([k0, k1, k2, k3, k4, k5, k6, k7, k8, k9] : List Value)[i]? = some k → (∃ A c, k = .slice A (aptRow i).length c ∧ (aptRow i).length ≤ c ∧ Kd.C (Kd.int .i64) W A (aptRow i).length (aptRow i)) → ∃ A c, W.cell? ⟨0, i, none⟩ = some (.slice A (aptRow i).length c) ∧ (aptRow i).length ≤ c ∧ Kd.C (Kd.int .i64) W A (aptRow i).length (aptRow i) := by
        intro i k hk ⟨A, c, he, hr⟩
        refine ⟨A, c, ?_, hr⟩
        rw [World.var?_cell hg0 hv0 i]
        rw [← he]
        simpa using hk
      intro i hi
      match i, hi with
      | 0, _ => exact key 0 k0 rfl e0
      | 1, _ => exact key 1 k1 rfl e1
      | 2, _ => exact key 2 k2 rfl e2
      | 3, _ => exact key 3 k3 rfl e3
      | 4, _ => exact key 4 k4 rfl e4
      | 5, _ => exact key 5 k5 rfl e5
      | 6, _ => exact key 6 k6 rfl e6
      | 7, _ => exact key 7 k7 rfl e7
      | 8, _ => exact key 8 k8 rfl e8
      | 9, _ => exact key 9 k9 rfl e9
end Table
end Go.Proofs.YtnhbbfbllkefcaaDoor
