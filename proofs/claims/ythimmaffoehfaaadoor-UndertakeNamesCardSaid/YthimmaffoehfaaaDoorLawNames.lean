/- The law UndertakeNames holds at every number, the table of names laid as the program's text lays it; the card closed. Conditions: the table of names holds what the text gives it (the card's tie). -/
import Derived.Test.YthimmaffoehfaaaDoorWalkNames
import Derived.Test.YthimmaffoehfaaaDoorRows
import Derived.Test.YthimmaffoehfaaaDoorTie
import Derived.Test.YthimmaffoehfaaaDoorCards
import Derived.WalkKit
import Derived.ChangeOld
import Derived.Below
import Derived.ChangeSame
import Derived.SizedLaws
import Derived.ProofKit
import Derived.OpenShut
import Derived.ShutString
import Derived.LaidMore
import Derived.SevenTiedAt
set_option linter.unusedVariables false
set_option linter.unusedSimpArgs false
set_option linter.unusedSectionVars false
namespace Go.Proofs.YthimmaffoehfaaaDoor
open Go.RowKit Go.Proofs.YthimmaffoehfaaaDoorW.PrintWords Go.Proofs.YthimmaffoehfaaaDoorW.PrintLast Go.Proofs.YthimmaffoehfaaaDoorW.PrintMore
open Q

namespace UndertakeNamesRow
open Go.ChangeShapes Go.WideShapes Go.ChangeAt Go.RowKit
theorem own : ownKnob Tryd.prog.godebug = none := by kernel_rfl
theorem laidOut : laidOutB Tryd.prog = true := by kernel_rfl
theorem gNames : Tryd.prog.globalNamed "supercargo/undertake.names" = some 0 := by kernel_rfl
theorem tNames : (Tryd.prog.globals[0]?).map (·.type) = some 44 := by kernel_rfl
def laid1 : List (String × DataW Unit) := [("supercargo/undertake.names", Rows.laid_supercargo_undertake_names)]
theorem door_met (os : Os) (args : Array Value) : laidMetH Tryd.prog laid1 ((World.doorLaid Tryd.prog 400 os).forCall (fun _ _ => 0) ⟨#[], args, []⟩).memory :=
  laidMetH_of_parts3 (fuel := 8) (laidMet_of_run' 8 (by kernel_rfl) (by kernel_rfl)) (by kernel_rfl) (by kernel_rfl)
theorem of_laid {W : World} (h : laidMetH Tryd.prog laid1 W) : NamesAt W := by
  rw [MakeChecks.laidMetH_plain _ _ _ (by kernel_rfl)] at h
  obtain ⟨ps, ⟨g0, t0, cs0, f0, p0, q0, hg0, ht0, hv0, hd0, _, _⟩, _, _⟩ := h
  obtain rfl := Option.some.inj (gNames.symm.trans hg0)
  obtain rfl := Option.some.inj (tNames.symm.trans ht0)
  obtain ⟨xs, m1, rfl, hx1, hlen, hn8, hel⟩ := DataW.trod_array Tryd.underlying44 hd0
  have c9 : Tryd.prog.cellsOf 9 = 1 := by kernel_rfl
  have c44 : Tryd.prog.cellsOf 44 = 8 := by kernel_rfl
  rw [c9] at hel
  rw [c44] at hlen
  simp only [Prod.mk.injEq, Rows.laid_supercargo_undertake_names, DataW.agg.injEq] at hx1
  obtain ⟨l⟩ := cs0
  match l, hlen with
  | [k0, k1, k2, k3, k4, k5, k6, k7], _ =>
    match xs, hn8 with
    | [x0, x1, x2, x3, x4, x5, x6, x7], _ =>
      have one : ∀ (i : Nat) (k : Value) (x : DataW Unit × List MemPlace) (bytes : List UInt8), DataW.trod (fun _ => ()) Tryd.prog W 0 (fun _ => true) false m1 9 [k] = some x → x.1 = .lit (.string bytes) → k = .string ⟨bytes.toArray⟩ := by
        intro i k x bytes ht hx
        obtain ⟨s, q, rfl, _⟩ := DataW.trod_string Tryd.underlying9 ht
        obtain rfl : k = .string s := by simpa using q
        simp only [DataW.lit.injEq, Lit.string.injEq] at hx
        rw [← hx]
      have t0 := hel 0 (by omega)
      have t1 := hel 1 (by omega)
      have t2 := hel 2 (by omega)
      have t3 := hel 3 (by omega)
      have t4 := hel 4 (by omega)
      have t5 := hel 5 (by omega)
      have t6 := hel 6 (by omega)
      have t7 := hel 7 (by omega)
      simp only [List.map_cons, List.map_nil, List.cons.injEq] at hx1
      obtain ⟨⟨h0, h1, h2, h3, h4, h5, h6, h7, _⟩, _⟩ := hx1
      have e0 := one 0 k0 x0 _ (by simpa using t0) h0.symm
      have e1 := one 1 k1 x1 _ (by simpa using t1) h1.symm
      have e2 := one 2 k2 x2 _ (by simpa using t2) h2.symm
      have e3 := one 3 k3 x3 _ (by simpa using t3) h3.symm
      have e4 := one 4 k4 x4 _ (by simpa using t4) h4.symm
      have e5 := one 5 k5 x5 _ (by simpa using t5) h5.symm
      have e6 := one 6 k6 x6 _ (by simpa using t6) h6.symm
      have e7 := one 7 k7 x7 _ (by simpa using t7) h7.symm
      subst e0 e1 e2 e3 e4 e5 e6 e7
      intro i hi
      have := World.var?_cell hg0 hv0 i
      rw [this]
      match i, hi with
      | 0, _ => rfl
      | 1, _ => rfl
      | 2, _ => rfl
      | 3, _ => rfl
      | 4, _ => rfl
      | 5, _ => rfl
      | 6, _ => rfl
      | 7, _ => rfl
set_option maxRecDepth 100000 in
theorem lifted (os : Os) (started : os.Started) (H : Type) (enc : TypeId × Value → H) :
    ReturnsInHanded {} Tryd.checked os 3 .any (fun w args => (Rows.undertakeNamesSpec.pre enc Tryd.prog Tryd.f3 [] false w args ∧ laidMetH Tryd.prog laid1 w) ∧ sizedMet enc Tryd.prog Tryd.f3 (OpenSpec.ofChange Rows.undertakeNamesSpec) false w args) (Rows.undertakeNamesSpec.post enc Tryd.prog Tryd.f3 false true false false) := by
  refine returnsInHanded_of_change_and (C := Tryd.checked) (X := fun w _ => laidMetH Tryd.prog laid1 w) (fun _ _ _ hh h => h.of_heap hh) own started (by kernel_rfl) Tryd.func3
    (ChangeSpec.witness_shaped (enc := enc) (C := Tryd.checked) (os := os) (X := fun w _ => laidMetH Tryd.prog laid1 w) false (World.doorLaid Tryd.prog 400 os) #[.int .i64 0] 8 rfl (World.shaped_of_RefB (by kernel_rfl) (by kernel_rfl)) (by kernel_rfl) (by kernel_rfl) (by kernel_rfl) (door_met os _)) ?_
  intro W base args ds gs before hval0 hW _ _ hL _
  have hval : ∀ (j : Nat) t v, Tryd.f3.params[j]? = some t → args[j]? = some v → Value.okWide Tryd.prog W .any base t v := hval0
  have hW' := hW
  obtain ⟨p, q, hA0, hV, rfl, hfz, hnd⟩ := hW
  have hA : DataW.TrodAll enc Tryd.prog W 0 (fun _ => true) true Tryd.f3.params.toList args.toList ds p := hA0
  rw [Tryd.params3] at hA hval
  obtain ⟨v0, d0, rfl, rfl, h0⟩ := trodAll_one hA
  obtain ⟨rfl, rfl⟩ := trodVars_none hV
  obtain ⟨n, rfl, rfl, rfl, hwn⟩ := open_int Tryd.underlying3 (hval 0 3 v0 rfl rfl) h0
  have hN := of_laid hL
  clear hA0 hval0
  simp only [List.append_nil] at hW'
  refine (names_walk n W hN).mono fun e W' ⟨he, bel⟩ => ?_
  subst he
  exact ⟨_, rfl, _, _, _, [], _, [], hW', trodAll_mk1 (shut_bool Tryd.underlying4 _), trodAll_mk1 (shut_int Tryd.underlying3 hwn), rfl, bel.frame _, fun h => by cases h⟩
theorem over : Rows.undertakeNamesRow.holds Tryd.pinned (OpenSpec.ofChange Rows.undertakeNamesSpec) :=
  OpenClaim.holds_of_wide 3 Tryd.f3 rfl rfl rfl rfl rfl rfl rfl ⟨rfl, rfl, rfl, rfl, rfl⟩ rfl rfl rfl rfl rfl (by kernel_rfl) Tryd.func3 (by kernel_rfl)
    (of_decide_eq_true (by kernel_rfl)) (by unfold Func.isWrapper; first | (rw [if_pos (by decide +kernel)]; kernel_rfl) | (rw [if_neg (by decide +kernel)]; exact ⟨rfl, rfl⟩))
    (fun os started H enc _ => lifted os started H enc)
theorem card : Claim7.holds Tryd.pinned (.plain (OpenSpec.ofChange Rows.undertakeNamesSpec)) Rows.undertakeNamesCard :=
  Claim7.holds_tied_plain_at .later [] [.data] true (true, "944a970414d6634a201879a1ee99dc2e1de856229f09e6b69687aca953389f17") false
    over (fun _ h => by cases h) (by kernel_rfl) (fun _ h => by cases h) undertakeNames_row_tie rfl ⟨rfl, rfl⟩ (by kernel_rfl) rfl
    (fun f fn hf hfn => by
      obtain rfl : f = 3 := Option.some.inj ((show Tryd.prog.funcNamed "supercargo/supercargolaw34.UndertakeNames" = some 3 by kernel_rfl).symm.trans hf) |>.symm
      obtain rfl : fn = Tryd.f3 := (Option.some.inj (Tryd.func3.symm.trans hfn)).symm
      exact ⟨by kernel_rfl, fun j t ht => by
        rw [Tryd.params3] at ht
        have hm : t ∈ [3] := by simpa using Array.mem_of_getElem? ht
        have hall : ([3].all fun u => !Tryd.prog.wantsStandIn u) = true := by kernel_rfl
        exact (show Tryd.prog.wantsStandIn t = false by simpa using List.all_eq_true.1 hall t hm)⟩)
    (by kernel_rfl)
end UndertakeNamesRow
/-- UndertakeNames, for every number. -/
theorem undertakeNames_holds : Rows.UndertakeNamesCardSaid := UndertakeNamesRow.card
end Go.Proofs.YthimmaffoehfaaaDoor
