/- The law CustodyApart holds at every row of hand-overs, box and day. Conditions: texts as a machine can hold. -/
import Derived.Test.YtonnhdffjbpgnaaLong
import Derived.Test.YtonnhdffjbpgnaaAwake
import Derived.Test.YtonnhdffjbpgnaaHist
import Derived.Test.YtonnhdffjbpgnaaKept
import Derived.Test.YtonnhdffjbpgnaaRows
import Derived.WalkKit
import Derived.ChangeOld
import Derived.Below
set_option linter.unusedVariables false
set_option linter.unusedSimpArgs false
set_option linter.unusedSectionVars false
namespace Go.Proofs.Ytonnhdffjbpgnaa
open Go.RowKit Go.Proofs.YtonnhdffjbpgnaaW.PrintWords Go.Proofs.YtonnhdffjbpgnaaW.PrintLast Go.Proofs.YtonnhdffjbpgnaaW.PrintMore
open Q

set_option maxRecDepth 100000 in
theorem apart_walk (A : Option Addr) (c : Nat) (l : List S41) (box : ByteArray) (day : Int) (w : World) (hr : Kd.C k41 w A l.length l) (hc : l.length ≤ c) (hs : Sized4 l) :
    Calls Try.prog 3 #[.slice A l.length c, .string box, .int .i64 day] w fun e w' => e = .returned (.bool true) ∧ Below w.heap.size w w' := by
  have HR := Aside0.mk hr
  have HC := Aside0.mk hc
  have HS := Aside0.mk hs
  clear hr hc hs
  go_enter Try.func3, Try.ntmps3
  go_wp2_with fail
  refine (long_any A c l w HR.out HC.out HS.out).mono ?_
  rintro e w1 ⟨rfl, hb1⟩
  have HB := Aside0.mk hb1
  clear hb1
  cases hlg : longB l with
  | true =>
    go_wp2_with fail
    refine (awake_any w1).mono ?_
    rintro e w2 ⟨rfl, hb2⟩
    have HB2 := Aside0.mk (HB.out.trans (hb2.mono HB.out.size))
    clear hb2
    go_wp2
    go_ret
    exact ⟨rfl, HB2.out⟩
  | false =>
    have HL := Aside0.mk (short_len hlg)
    have HZ := Aside0.mk (short_sized2 hlg)
    have HA : Aside0 (ownP (kept [] l) box = ownP (kept [] (ownP l box)) box) := ⟨kept_apart box l [] [] rfl (by have := HL.out; simp; omega) (by have := HL.out; simp; omega)⟩
    clear hlg
    by_cases hbx : (60 : Int) < box.size
    · go_wp2_with fail
      refine (awake_any w1).mono ?_
      rintro e w2 ⟨rfl, hb2⟩
      have HB2 := Aside0.mk (HB.out.trans (hb2.mono HB.out.size))
      clear hb2
      go_wp2
      go_ret
      exact ⟨rfl, HB2.out⟩
    · go_wp2_with fail
      refine (play_any A c l w1 (Kd.C_below HR.out HB.out) HZ.out (by have := HL.out; omega)).mono ?_
      rintro e w2 ⟨p1, r1, E1, v1, rfl, hC1, hT1, hS1, hR1, hb2⟩
      have HB2 := Aside0.mk (HB.out.trans (hb2.mono HB.out.size))
      have HC1 := Aside0.mk hC1
      have HG1 := Aside0.mk (hT1.get box)
      have HS1 : Aside0 (Small 1000000 (hands E1)) := ⟨⟨by have := hS1.1; have := HL.out; omega, fun x hx => by have := hS1.2 x hx; have := HL.out; omega⟩⟩
      clear hC1 hT1 hS1 hR1 hb2 HB
      go_wp2_with fail
      refine (rown_any A c l box w2 (Kd.C_below HR.out HB2.out) HC.out (by have := HL.out; omega)).mono ?_
      rintro e w3 ⟨v2, rfl, hR2, hb3⟩
      obtain ⟨A2, c2, rfl, hc2, hrd2⟩ := Kd.R_reads hR2
      have HB3 := Aside0.mk (HB2.out.trans (hb3.mono HB2.out.size))
      have HC1' := Aside0.mk (HC1.out.below hb3)
      have HD2 := Aside0.mk hrd2
      have HL2 := Aside0.mk (ownP_len l box)
      clear hR2 hc2 hrd2 hb3 HB2 HC1
      go_wp2_with fail
      refine (play_any A2 c2 (ownP l box) w3 HD2.out (ownP_sized HZ.out box) (by have := HL.out; have := HL2.out; omega)).mono ?_
      rintro e w4 ⟨p2, r2, E2, v3, rfl, hC2, hT2, hS2, hR3, hb4⟩
      have HB4 := Aside0.mk (HB3.out.trans (hb4.mono HB3.out.size))
      have HC1 := Aside0.mk (HC1'.out.below hb4)
      have HC2 := Aside0.mk hC2
      have HG2 := Aside0.mk ((hT2.get box).trans HA.out.symm)
      have HS2 : Aside0 (Small 1000000 (hands E2)) := ⟨⟨by have := hS2.1; have := HL.out; have := HL2.out; omega, fun x hx => by have := hS2.2 x hx; have := HL.out; have := HL2.out; omega⟩⟩
      clear hC2 hT2 hS2 hR3 hb4 HB3 HC1' HD2
      obtain ⟨own, hown⟩ : ∃ own, own = ownP (kept [] l) box := ⟨_, rfl⟩
      have HO1 : Aside0 (hget (hands E1) box = own) := ⟨by rw [HG1.out, hown]⟩
      have HO2 : Aside0 (hget (hands E2) box = own) := ⟨by rw [HG2.out, hown]⟩
      have HOL : Aside0 (own.length ≤ 1000000) := ⟨by rw [← HO1.out]; exact hget_len HS1.out⟩
      clear hown HG1 HG2
      go_wp2_with fail
      refine (as_any _ _ p1 r1 E1 box day w4 HC1.out).mono ?_
      rintro e w5 ⟨rfl, hb5⟩
      have HB5 := Aside0.mk (HB4.out.trans (hb5.mono HB4.out.size))
      have HD1 := Aside0.mk (HC1.out.below hb5)
      have HD2 := Aside0.mk (HC2.out.below hb5)
      rw [HO1.out]
      clear hb5 HB4 HC1 HC2
      go_wp2_with fail
      refine (as_any _ _ p2 r2 E2 box day w5 HD2.out).mono ?_
      rintro e w6 ⟨rfl, hb6⟩
      have HB6 := Aside0.mk (HB5.out.trans (hb6.mono HB5.out.size))
      have HC1 := Aside0.mk (HD1.out.below hb6)
      have HC2 := Aside0.mk (HD2.out.below hb6)
      rw [HO2.out]
      clear hb6 HB5 HD1 HD2
      obtain ⟨x, y, ok⟩ := asP own day
      go_wp2_with fail
      refine (history_any _ _ p1 r1 E1 box w6 HC1.out HS1.out).mono ?_
      rintro e w7 ⟨v7, rfl, hR7, hb7⟩
      rw [HO1.out] at hR7
      obtain ⟨A7, c7, rfl, hc7, hrd7⟩ := Kd.R_reads hR7
      have HB7 := Aside0.mk (HB6.out.trans (hb7.mono HB6.out.size))
      have HD2 := Aside0.mk (HC2.out.below hb7)
      have HR7 := Aside0.mk hrd7
      have HL7 := Aside0.mk hc7
      clear hb7 HB6 HC1 HC2 hR7 hrd7 hc7
      go_wp2_with fail
      refine (history_any _ _ p2 r2 E2 box w7 HD2.out HS2.out).mono ?_
      rintro e w8 ⟨v8, rfl, hR8, hb8⟩
      rw [HO2.out] at hR8
      obtain ⟨A8, c8, rfl, hc8, hrd8⟩ := Kd.R_reads hR8
      have HB8 := Aside0.mk (HB7.out.trans (hb8.mono HB7.out.size))
      have HR8 := Aside0.mk (Kd.C_below HR7.out hb8)
      have HQ8 := Aside0.mk hrd8
      have HL8 := Aside0.mk hc8
      clear hb8 HB7 HD2 hR8 hrd8 hc8 HR7
      go_wp2_with fail
      refine (same_any A7 A8 c7 c8 own own w8 rfl HR8.out HL7.out HQ8.out HL8.out HOL.out).mono ?_
      rintro e w9 ⟨rfl, hb9⟩
      have HB9 := Aside0.mk (HB8.out.trans (hb9.mono HB8.out.size))
      clear hb9 HB8 HR8 HQ8
      go_wp2_with fail
      refine (awake_any w9).mono ?_
      rintro e w10 ⟨rfl, hb10⟩
      have HB10 := Aside0.mk (HB9.out.trans (hb10.mono HB9.out.size))
      clear hb10
      go_wp2
      go_ret
      exact ⟨rfl, HB10.out⟩

theorem apart_walk2 (A : Option Addr) (c : Nat) (l : List S41) (box : ByteArray) (day : Int) (w : World) (hr : Kd.C k41 w A l.length l) (hc : l.length ≤ c) (hs : Sized4 l) (hb : box.size ≤ 140737488351232) (hd : (Lit.int .i64 day).wf = true) :
    Calls Try.prog 3 #[.slice A l.length c, .string box, .int .i64 day] w fun e w' => e = .returned (.bool true) ∧ Below w.heap.size w w' := apart_walk A c l box day w hr hc hs

namespace CustodyApartRow
open Go.ChangeShapes Go.WideShapes Go.ChangeAt Go.RowKit
open Go.ChangeMaps (open_string shut_string)
theorem own : ownKnob Try.prog.godebug = none := by kernel_rfl
theorem laidOut : laidOutB Try.prog = true := by kernel_rfl
set_option maxRecDepth 100000 in
theorem lifted (os : Os) (started : os.Started) (H : Type) (enc : TypeId × Value → H) :
    ReturnsInHanded {} Try.checked os 3 .any (Rows.custodyApartSpec.pre6 enc Try.prog Try.f3 Rows.custodyApartRow.domain false) (Rows.custodyApartSpec.post enc Try.prog Try.f3 false true false false) := by
  refine returnsInHanded_of_change_sized (C := Try.checked) own started (by kernel_rfl) Try.func3
    (ChangeSpec.witness6 (enc := enc) (C := Try.checked) false ⟨#[], #[.slice none 0 0, .string ByteArray.empty, .int .i64 0], []⟩ 8 (by kernel_rfl) (by kernel_rfl) (by kernel_rfl) (by kernel_rfl)) ?_
  intro W base args ds gs before hval0 hW hcnd hsz0 _
  have hsz : (DataW.weightsEach Try.prog (Try.f3.params.toList ++ Rows.custodyApartSpec.plain.varTypes Try.prog) (ds ++ gs)).all (· ≤ reachBytes) = true := hsz0
  have hval : ∀ (j : Nat) t v, Try.f3.params[j]? = some t → args[j]? = some v → Value.okWide Try.prog W .any base t v := hval0
  have hW' := hW
  obtain ⟨p, q, hA0, hV, rfl, hfz, hnd⟩ := hW
  have hA : DataW.TrodAll enc Try.prog W 0 (fun _ => true) true Try.f3.params.toList args.toList ds p := hA0
  rw [Try.params3] at hA hval hsz
  obtain ⟨v0, vs0, d0, ds0, p0, q0, hargs, rfl, rfl, h0, r0⟩ := trodAll_cons hA
  obtain ⟨v1, vs1, d1, ds1, p1, q1, rfl, rfl, rfl, h1, r1⟩ := trodAll_cons r0
  obtain ⟨v2, vs2, d2, ds2, p2, q2, rfl, rfl, rfl, h2, r2⟩ := trodAll_cons r1
  obtain ⟨rfl, rfl, rfl⟩ := trodAll_nil r2
  obtain rfl : args = #[v0, v1, v2] := by cases args; simp_all
  obtain ⟨rfl, rfl⟩ := trodVars_none hV
  obtain ⟨a0, len0, cap0, rfl⟩ := okWide_slice Try.underlying22 (hval 0 22 v0 rfl rfl)
  have k0 := h0
  have lt0 : ∀ x ∈ p0, x.block < W.heap.size := by obtain ⟨m, hm⟩ := k0; exact DataW.trod_lt m _ _ _ hm
  obtain ⟨l0, rfl, hc0, hr0, hs0⟩ := open_hands hsz (j := 0) rfl rfl h0
  obtain ⟨a1, rfl, rfl, rfl, y1⟩ := open_string Try.underlying9 (hval 1 9 v1 rfl rfl) h1
  have w1 : a1.size ≤ 140737488351232 := by
    have z := sized_string hsz (j := 1) (t := 9) rfl rfl
    rw [Array.length_toList] at z
    exact z
  obtain ⟨a2, rfl, rfl, rfl, w2⟩ := open_int Try.underlying3 (hval 2 3 v2 rfl rfl) h2
  clear hA0 hval0 hsz0 hsz
  refine (apart_walk2 a0 cap0 l0 a1 a2 W hr0 hc0 hs0 w1 w2).mono fun e W' ⟨he, bel⟩ => ?_
  subst he
  exact ⟨_, rfl, _, _, _, [], _, [], hW', trodAll_mk1 (shut_bool Try.underlying4 _), (trodAll_cons_mk (Below.trod laidOut (by kernel_rfl) (of_decide_eq_true (by kernel_rfl)) k0 bel lt0) (trodAll_cons_mk (shut_string Try.underlying9 y1) (trodAll_cons_mk (shut_int Try.underlying3 w2) trodAll_mk0))), rfl, bel.frame _, fun h => by cases h⟩
theorem over : Rows.custodyApartRow.holds Try.pinned (OpenSpec.ofChange Rows.custodyApartSpec) :=
  OpenClaim.holds_of_wide 3 Try.f3 rfl rfl rfl rfl rfl rfl rfl ⟨rfl, rfl, rfl, rfl, rfl⟩ rfl rfl rfl rfl rfl (by kernel_rfl) Try.func3 (by kernel_rfl)
    (of_decide_eq_true (by kernel_rfl)) (by unfold Func.isWrapper; first | (rw [if_pos (by decide +kernel)]; kernel_rfl) | (rw [if_neg (by decide +kernel)]; exact ⟨rfl, rfl⟩))
    (fun os started H enc _ => lifted os started H enc)
end CustodyApartRow
/-- CustodyApart, for every input. -/
theorem custodyApart_holds : Rows.CustodyApartSaid := CustodyApartRow.over
end Go.Proofs.Ytonnhdffjbpgnaa
