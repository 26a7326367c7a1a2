/- The law UndertakeWay holds at every credit, every amount, any six days. Conditions: texts as a machine can hold. -/
import Derived.Test.YthimmaffoehfaaaWalkWay
import Derived.Test.YthimmaffoehfaaaOpenU
import Derived.Test.YthimmaffoehfaaaRows
import Derived.WalkKit
import Derived.ChangeOld
import Derived.Below
set_option linter.unusedVariables false
set_option linter.unusedSimpArgs false
set_option linter.unusedSectionVars false
namespace Go.Proofs.Ythimmaffoehfaaa
open Go.RowKit Go.Proofs.YthimmaffoehfaaaW.PrintWords Go.Proofs.YthimmaffoehfaaaW.PrintLast Go.Proofs.YthimmaffoehfaaaW.PrintMore
open Q

section
open Go.ChangeShapes Go.WideShapes Go.Deep
theorem okWide_six {P : Program} {w : World} {r : Reach} {base : Nat} {t e : TypeId} {n : Nat} {v : Value} (ht : P.underlying t = some (.array n e)) (h : Value.okWide P w r base t v) : ∃ cs, v = .agg cs ∧ cs.size = P.cellsOf t := by
  simp only [Value.okWide, ht] at h
  obtain ⟨cs, h1, h2, _⟩ := h
  exact ⟨cs, h1, h2⟩
set_option maxRecDepth 100000 in
theorem open_days {H : Type} {enc : TypeId × Value → H} {W : World} {base b0 : Nat} {r : Reach} {spare : Nat → Bool} {held : Bool} {v : Value} {d : DataW H} {ps : List MemPlace}
    (hv : Value.okWide Try.prog W r b0 48 v) (h : DataW.Trod enc Try.prog W base spare held 48 v d ps) :
    ∃ d0 d1 d2 d3 d4 d5 : Int, v = .agg #[.int .i64 d0, .int .i64 d1, .int .i64 d2, .int .i64 d3, .int .i64 d4, .int .i64 d5] := by
  obtain ⟨cs, rfl, hsz⟩ := okWide_six Try.underlying48 hv
  have hC : Try.prog.cellsOf 48 = 6 := by kernel_rfl
  have hE : Try.prog.cellsOf 3 = 1 := by kernel_rfl
  obtain ⟨l⟩ := cs
  match l, hsz.trans hC with
  | [c0, c1, c2, c3, c4, c5], _ =>
    obtain ⟨fuel, hf⟩ := h
    obtain ⟨xs, m, _, _, _, hxl, hg⟩ := DataW.trod_array Try.underlying48 hf
    rw [hE] at hg
    match xs, hxl with
    | [y0, y1, y2, y3, y4, y5], _ =>
      have t0 : DataW.trod enc Try.prog W base spare held m 3 [c0] = some y0 := by simpa [Value.cells] using hg 0 (by omega)
      have t1 : DataW.trod enc Try.prog W base spare held m 3 [c1] = some y1 := by simpa [Value.cells] using hg 1 (by omega)
      have t2 : DataW.trod enc Try.prog W base spare held m 3 [c2] = some y2 := by simpa [Value.cells] using hg 2 (by omega)
      have t3 : DataW.trod enc Try.prog W base spare held m 3 [c3] = some y3 := by simpa [Value.cells] using hg 3 (by omega)
      have t4 : DataW.trod enc Try.prog W base spare held m 3 [c4] = some y4 := by simpa [Value.cells] using hg 4 (by omega)
      have t5 : DataW.trod enc Try.prog W base spare held m 3 [c5] = some y5 := by simpa [Value.cells] using hg 5 (by omega)
      obtain ⟨n0, q0, _⟩ := DataW.trod_int Try.underlying3 t0
      obtain ⟨n1, q1, _⟩ := DataW.trod_int Try.underlying3 t1
      obtain ⟨n2, q2, _⟩ := DataW.trod_int Try.underlying3 t2
      obtain ⟨n3, q3, _⟩ := DataW.trod_int Try.underlying3 t3
      obtain ⟨n4, q4, _⟩ := DataW.trod_int Try.underlying3 t4
      obtain ⟨n5, q5, _⟩ := DataW.trod_int Try.underlying3 t5
      obtain rfl : c0 = .int .i64 n0 := by simpa using q0
      obtain rfl : c1 = .int .i64 n1 := by simpa using q1
      obtain rfl : c2 = .int .i64 n2 := by simpa using q2
      obtain rfl : c3 = .int .i64 n3 := by simpa using q3
      obtain rfl : c4 = .int .i64 n4 := by simpa using q4
      obtain rfl : c5 = .int .i64 n5 := by simpa using q5
      exact ⟨n0, n1, n2, n3, n4, n5, rfl⟩
end
theorem way_walk2 (t : Tm) (a d0 d1 d2 d3 d4 d5 : Int) (r : Bool) (w : World) (hs : Named t) (_hw : (Lit.int .i64 a).wf = true) :
    Calls Try.prog 5 #[.agg (teCells t), .int .i64 a, .agg #[.int .i64 d0, .int .i64 d1, .int .i64 d2, .int .i64 d3, .int .i64 d4, .int .i64 d5], .bool r] w fun e w' => e = .returned (.bool true) ∧ Below w.heap.size w w' := way_walk t a d0 d1 d2 d3 d4 d5 r w hs

namespace UndertakeWayRow
open Go.ChangeShapes Go.WideShapes Go.ChangeAt Go.RowKit
open Go.ChangeMaps (open_string shut_string)
theorem own : ownKnob Try.prog.godebug = none := by kernel_rfl
theorem laidOut : laidOutB Try.prog = true := by kernel_rfl
set_option maxRecDepth 100000 in
theorem lifted (os : Os) (started : os.Started) (H : Type) (enc : TypeId × Value → H) :
    ReturnsInHanded {} Try.checked os 5 .any (Rows.undertakeWaySpec.pre6 enc Try.prog Try.f5 Rows.undertakeWayRow.domain false) (Rows.undertakeWaySpec.post enc Try.prog Try.f5 false true false false) := by
  refine returnsInHanded_of_change_sized (C := Try.checked) own started (by kernel_rfl) Try.func5
    (ChangeSpec.witness6 (enc := enc) (C := Try.checked) false ⟨#[], #[.agg #[.string ByteArray.empty, .string ByteArray.empty, .string ByteArray.empty, .string ByteArray.empty, .int .i64 0, .int .i64 0, .int .i64 0, .int .i64 0, .bool false], .int .i64 0, .agg #[.int .i64 0, .int .i64 0, .int .i64 0, .int .i64 0, .int .i64 0, .int .i64 0], .bool false], []⟩ 8 (by kernel_rfl) (by kernel_rfl) (by kernel_rfl) (by kernel_rfl)) ?_
  intro W base args ds gs before hval0 hW hcnd hsz0 _
  have hsz : (DataW.weightsEach Try.prog (Try.f5.params.toList ++ Rows.undertakeWaySpec.plain.varTypes Try.prog) (ds ++ gs)).all (· ≤ reachBytes) = true := hsz0
  have hval : ∀ (j : Nat) t v, Try.f5.params[j]? = some t → args[j]? = some v → Value.okWide Try.prog W .any base t v := hval0
  have hW' := hW
  obtain ⟨p, q, hA0, hV, rfl, hfz, hnd⟩ := hW
  have hA : DataW.TrodAll enc Try.prog W 0 (fun _ => true) true Try.f5.params.toList args.toList ds p := hA0
  rw [Try.params5] at hA hval hsz
  obtain ⟨v0, vs0, d0, ds0, p0, q0, hargs, rfl, rfl, h0, r0⟩ := trodAll_cons hA
  obtain ⟨v1, vs1, d1, ds1, p1, q1, rfl, rfl, rfl, h1, r1⟩ := trodAll_cons r0
  obtain ⟨v2, vs2, d2, ds2, p2, q2, rfl, rfl, rfl, h2, r2⟩ := trodAll_cons r1
  obtain ⟨v3, vs3, d3, ds3, p3, q3, rfl, rfl, rfl, h3, r3⟩ := trodAll_cons r2
  obtain ⟨rfl, rfl, rfl⟩ := trodAll_nil r3
  obtain rfl : args = #[v0, v1, v2, v3] := by cases args; simp_all
  obtain ⟨rfl, rfl⟩ := trodVars_none hV
  have k0 := h0
  have lt0 : ∀ x ∈ p0, x.block < W.heap.size := by obtain ⟨m, hm⟩ := k0; exact DataW.trod_lt m _ _ _ hm
  obtain ⟨t0, rfl, n0⟩ := open_terms hsz (j := 0) rfl rfl (hval 0 23 v0 rfl rfl) h0
  obtain ⟨a1, rfl, rfl, rfl, w1⟩ := open_int Try.underlying2 (hval 1 2 v1 rfl rfl) h1
  have k2 := h2
  have lt2 : ∀ x ∈ p2, x.block < W.heap.size := by obtain ⟨m, hm⟩ := k2; exact DataW.trod_lt m _ _ _ hm
  obtain ⟨m20, m21, m22, m23, m24, m25, rfl⟩ := open_days (hval 2 48 v2 rfl rfl) h2
  obtain ⟨a3, rfl, rfl, rfl⟩ := open_bool Try.underlying4 (hval 3 4 v3 rfl rfl) h3
  clear hA0 hval0 hsz0 hsz
  refine (way_walk2 t0 a1 m20 m21 m22 m23 m24 m25 a3 W n0 w1).mono fun e W' ⟨he, bel⟩ => ?_
  subst he
  exact ⟨_, rfl, _, _, _, [], _, [], hW', trodAll_mk1 (shut_bool Try.underlying4 _), (trodAll_cons_mk (Below.trod laidOut (by kernel_rfl) (of_decide_eq_true (by kernel_rfl)) k0 bel lt0) (trodAll_cons_mk (shut_int Try.underlying2 w1) (trodAll_cons_mk (Below.trod laidOut (by kernel_rfl) (of_decide_eq_true (by kernel_rfl)) k2 bel lt2) (trodAll_cons_mk (shut_bool Try.underlying4 _) trodAll_mk0)))), rfl, bel.frame _, fun h => by cases h⟩
theorem over : Rows.undertakeWayRow.holds Try.pinned (OpenSpec.ofChange Rows.undertakeWaySpec) :=
  OpenClaim.holds_of_wide 5 Try.f5 rfl rfl rfl rfl rfl rfl rfl ⟨rfl, rfl, rfl, rfl, rfl⟩ rfl rfl rfl rfl rfl (by kernel_rfl) Try.func5 (by kernel_rfl)
    (of_decide_eq_true (by kernel_rfl)) (by unfold Func.isWrapper; first | (rw [if_pos (by decide +kernel)]; kernel_rfl) | (rw [if_neg (by decide +kernel)]; exact ⟨rfl, rfl⟩))
    (fun os started H enc _ => lifted os started H enc)
end UndertakeWayRow
/-- UndertakeWay, for every input. -/
theorem undertakeWay_holds : Rows.UndertakeWaySaid := UndertakeWayRow.over

end Go.Proofs.Ythimmaffoehfaaa
