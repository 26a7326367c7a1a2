/- The law CustodyPlays holds at every row of hand-overs, box, somebody and day. Conditions: texts as a machine can hold. -/
import Derived.Test.YtonnhdffjbpgnaaLong
import Derived.Test.YtonnhdffjbpgnaaAwake
import Derived.Test.YtonnhdffjbpgnaaRefs
import Derived.Test.YtonnhdffjbpgnaaRows
import Derived.WalkKit
import Derived.ChangeOld
import Derived.Below
set_option linter.unusedVariables false
set_option linter.unusedSimpArgs false
set_option linter.unusedSectionVars false
namespace Go.Proofs.Ytonnhdffjbpgnaa
open Go.RowKit Go.Proofs.YtonnhdffjbpgnaaW.PrintWords Go.Proofs.YtonnhdffjbpgnaaW.PrintLast Go.Proofs.YtonnhdffjbpgnaaW.PrintMore
open Q

set_option maxRecDepth 100000 in
set_option maxHeartbeats 4000000 in
theorem plays_walk (A : Option Addr) (c : Nat) (l : List S41) (box who : ByteArray) (day : Int) (w : World) (hr : Kd.C k41 w A l.length l) (hc : l.length ≤ c) (hs : Sized4 l) :
    Calls Try.prog 8 #[.slice A l.length c, .string box, .string who, .int .i64 day] w fun e w' => e = .returned (.bool true) ∧ Below w.heap.size w w' := by
  have HR := Aside0.mk hr
  have HC := Aside0.mk hc
  have HS := Aside0.mk hs
  clear hr hc hs
  go_enter Try.func8, Try.ntmps8
  go_wp2_with fail
  refine (long_any A c l w HR.out HC.out HS.out).mono ?_
  rintro e w1 ⟨rfl, hb1⟩
  have HB := Aside0.mk hb1
  clear hb1
  cases hlg : longB l with
  | true =>
    go_wp2_with fail
    refine (awake_any w1).mono ?_
    rintro e wz ⟨rfl, hbz⟩
    have HBZ := Aside0.mk (HB.out.trans (hbz.mono HB.out.size))
    clear hbz
    go_wp2
    go_ret
    exact ⟨rfl, HBZ.out⟩
  | false =>
    have HL := Aside0.mk (short_len hlg)
    have HZ := Aside0.mk (short_sized2 hlg)
    have HZ2 := Aside0.mk (short_sized hlg)
    clear hlg
    by_cases hbx : (60 : Int) < box.size
    · go_wp2_with fail
      refine (awake_any w1).mono ?_
      rintro e wz ⟨rfl, hbz⟩
      have HBZ := Aside0.mk (HB.out.trans (hbz.mono HB.out.size))
      clear hbz
      go_wp2
      go_ret
      exact ⟨rfl, HBZ.out⟩
    · by_cases hwx : (60 : Int) < who.size
      · go_wp2_with fail
        refine (awake_any w1).mono ?_
        rintro e wz ⟨rfl, hbz⟩
        have HBZ := Aside0.mk (HB.out.trans (hbz.mono HB.out.size))
        clear hbz
        go_wp2
        go_ret
        exact ⟨rfl, HBZ.out⟩
      · go_wp2_with fail
        refine (play_any A c l w1 (Kd.C_below HR.out HB.out) HZ.out (by have := HL.out; omega)).mono ?_
        rintro e w2 ⟨p, r, E, v1, rfl, hC, hT, hSm, hR1, hb2⟩
        obtain ⟨done, hdone⟩ : ∃ done, done = kept [] l := ⟨_, rfl⟩
        rw [← hdone] at hT hR1
        have HDL : Aside0 (done.length ≤ 60) := ⟨by rw [hdone]; have h1 := kept_len l []; have := HL.out; simp at h1; omega⟩
        have HACC : Aside0 (Acc [] done) := ⟨by rw [hdone]; exact acc_kept_row l [] trivial⟩
        have HKS : Aside0 (∀ x ∈ E, x.1.size ≤ maxLen) := ⟨fun x hx => Nat.le_trans (tells_keys hT (n := 200) (fun y hy => by
          rw [hdone] at hy
          rcases kept_mem l [] y hy with h | h
          · simp at h
          · exact HZ2.out y h _ (by simp)) (x.1, x.2.2) (List.mem_map.2 ⟨x, hx, rfl⟩)) (by unfold maxLen; omega)⟩
        have HSM : Aside0 (Small 1000000 (hands E)) := ⟨⟨by have := hSm.1; have := HL.out; omega, fun x hx => by have := hSm.2 x hx; have := HL.out; omega⟩⟩
        have HEL : Aside0 (E.length ≤ 1000000) := ⟨by have := HSM.out.1; simpa [hands] using this⟩
        have HGET := Aside0.mk (hT.get box)
        have HBX : Aside0 (sortedT (E.map (·.1)) = boxesP done) := ⟨by rw [← tells_boxes hT hC.keys, hands_keys]⟩
        have HHE : Aside0 ((sortedT (E.map (·.1))).filter (fun x => !delB (hands E) who x) = (boxesP done).filter (hasB done who)) := ⟨by rw [← helds_same hT hC.keys HACC.out (by have := HDL.out; omega) who, hands_keys]⟩
        have HBL : Aside0 ((boxesP done).length ≤ 60) := ⟨by have h1 := boxes_len done []; have := HDL.out; unfold boxesP; simp at h1; omega⟩
        have HB2 := Aside0.mk (HB.out.trans (hb2.mono HB.out.size))
        have HC2 := Aside0.mk hC
        obtain ⟨A1, c1, rfl, hc1, hrd1⟩ := Kd.R_reads hR1
        have HD2 := Aside0.mk hrd1
        have HDC := Aside0.mk hc1
        clear hC hT hSm hR1 hb2 HB hdone hc1 hrd1
        go_wp2_with fail
        refine (as_any _ _ p r E box day w2 HC2.out).mono ?_
        rintro e w3 ⟨rfl, hb3⟩
        have HB3 := Aside0.mk (HB2.out.trans (hb3.mono HB2.out.size))
        have HC3 := Aside0.mk (HC2.out.below hb3)
        have HD3 := Aside0.mk (Kd.C_below HD2.out hb3)
        rw [HGET.out]
        clear hb3 HB2 HC2 HD2
        go_wp2_with fail
        refine (ras_any A1 c1 done box day w3 HD3.out HDC.out (by have := HDL.out; omega)).mono ?_
        rintro e w4 ⟨rfl, hb4⟩
        have HB4 := Aside0.mk (HB3.out.trans (hb4.mono HB3.out.size))
        have HC4 := Aside0.mk (HC3.out.below hb4)
        have HD4 := Aside0.mk (Kd.C_below HD3.out hb4)
        clear hb4 HB3 HC3 HD3
        obtain ⟨x1, y1, o1⟩ := asP (ownP done box) day
        go_wp2_with fail
        refine (now_any _ _ p r E box w4 HC4.out).mono ?_
        rintro e w5 ⟨rfl, hb5⟩
        have HB5 := Aside0.mk (HB4.out.trans (hb5.mono HB4.out.size))
        have HC5 := Aside0.mk (HC4.out.below hb5)
        have HD5 := Aside0.mk (Kd.C_below HD4.out hb5)
        rw [HGET.out]
        clear hb5 HB4 HC4 HD4
        go_wp2_with fail
        refine (ras_any A1 c1 done box 1048576 w5 HD5.out HDC.out (by have := HDL.out; omega)).mono ?_
        rintro e w6 ⟨rfl, hb6⟩
        have HB6 := Aside0.mk (HB5.out.trans (hb6.mono HB5.out.size))
        have HC6 := Aside0.mk (HC5.out.below hb6)
        have HD6 := Aside0.mk (Kd.C_below HD5.out hb6)
        clear hb6 HB5 HC5 HD5
        obtain ⟨x2, y2, o2⟩ := asP (ownP done box) 1048576
        go_wp2_with fail
        refine (history_any _ _ p r E box w6 HC6.out HSM.out).mono ?_
        rintro e w7 ⟨v7, rfl, hR7, hb7⟩
        rw [HGET.out] at hR7
        obtain ⟨A7, c7, rfl, hc7, hrd7⟩ := Kd.R_reads hR7
        have HB7 := Aside0.mk (HB6.out.trans (hb7.mono HB6.out.size))
        have HC7 := Aside0.mk (HC6.out.below hb7)
        have HD7 := Aside0.mk (Kd.C_below HD6.out hb7)
        have HR7 := Aside0.mk hrd7
        have HL7 := Aside0.mk hc7
        clear hb7 HB6 HC6 HD6 hR7 hc7 hrd7
        go_wp2_with fail
        refine (rown_any A1 c1 done box w7 HD7.out HDC.out (by have := HDL.out; omega)).mono ?_
        rintro e w8 ⟨v8, rfl, hR8, hb8⟩
        obtain ⟨A8, c8, rfl, hc8, hrd8⟩ := Kd.R_reads hR8
        have HB8 := Aside0.mk (HB7.out.trans (hb8.mono HB7.out.size))
        have HC8 := Aside0.mk (HC7.out.below hb8)
        have HD8 := Aside0.mk (Kd.C_below HD7.out hb8)
        have HR8 := Aside0.mk (Kd.C_below HR7.out hb8)
        have HQ8 := Aside0.mk hrd8
        have HL8 := Aside0.mk hc8
        clear hb8 HB7 HC7 HD7 hR8 hc8 hrd8 HR7
        go_wp2_with fail
        refine (same_any A7 A8 c7 c8 _ _ w8 rfl HR8.out HL7.out HQ8.out HL8.out (by have := HDL.out; have := ownP_len done box; omega)).mono ?_
        rintro e w9 ⟨rfl, hb9⟩
        have HB9 := Aside0.mk (HB8.out.trans (hb9.mono HB8.out.size))
        have HC9 := Aside0.mk (HC8.out.below hb9)
        have HD9 := Aside0.mk (Kd.C_below HD8.out hb9)
        clear hb9 HB8 HC8 HD8 HR8 HQ8
        go_wp2_with fail
        refine (held_any _ _ p r E who w9 HC9.out HEL.out HKS.out).mono ?_
        rintro e w10 ⟨A10, c10, ys, rfl, hys, hyc, hyr, hb10⟩
        have HY : Aside0 (ys = (boxesP done).filter (hasB done who)) := ⟨hys.trans HHE.out⟩
        have HB10 := Aside0.mk (HB9.out.trans (hb10.mono HB9.out.size))
        have HC10 := Aside0.mk (HC9.out.below hb10)
        have HD10 := Aside0.mk (Kd.C_below HD9.out hb10)
        have HYR := Aside0.mk hyr
        have HYC := Aside0.mk hyc
        clear hb10 HB9 HC9 HD9 hys hyc hyr
        go_wp2_with fail
        refine (rheld_any A1 c1 done who w10 HD10.out HDC.out (by have := HDL.out; omega)).mono ?_
        rintro e w11 ⟨v11, rfl, hR11, hb11⟩
        rw [← HY.out] at hR11
        obtain ⟨A11, c11, rfl, hc11, hrd11⟩ := Kd.R_reads hR11
        have HB11 := Aside0.mk (HB10.out.trans (hb11.mono HB10.out.size))
        have HC11 := Aside0.mk (HC10.out.below hb11)
        have HD11 := Aside0.mk (Kd.C_below HD10.out hb11)
        have HYR11 := Aside0.mk (Kd.C_below HYR.out hb11)
        have HR11 := Aside0.mk hrd11
        have HL11 := Aside0.mk hc11
        clear hb11 HB10 HC10 HD10 HYR hR11 hc11 hrd11
        go_wp2_with fail
        refine (texts_any A10 A11 c10 c11 ys ys w11 rfl HYR11.out HYC.out HR11.out HL11.out (by rw [HY.out]; have h1 := List.length_filter_le (hasB done who) (boxesP done); have := HBL.out; omega)).mono ?_
        rintro e w12 ⟨rfl, hb12⟩
        have HB12 := Aside0.mk (HB11.out.trans (hb12.mono HB11.out.size))
        have HC12 := Aside0.mk (HC11.out.below hb12)
        have HD12 := Aside0.mk (Kd.C_below HD11.out hb12)
        clear hb12 HB11 HC11 HD11 HYR11 HR11 HY HYC HL11
        go_wp2_with fail
        refine (boxes_any _ _ p r E w12 HC12.out HEL.out HKS.out).mono ?_
        rintro e w13 ⟨v13, rfl, hR13, hb13⟩
        rw [HBX.out] at hR13
        obtain ⟨A13, c13, rfl, hc13, hrd13⟩ := Kd.R_reads hR13
        have HB13 := Aside0.mk (HB12.out.trans (hb13.mono HB12.out.size))
        have HD13 := Aside0.mk (Kd.C_below HD12.out hb13)
        have HR13 := Aside0.mk hrd13
        have HL13 := Aside0.mk hc13
        clear hb13 HB12 HC12 HD12 hR13 hc13 hrd13
        go_wp2_with fail
        refine (rboxes_any A1 c1 done w13 HD13.out HDC.out (by have := HDL.out; omega)).mono ?_
        rintro e w14 ⟨v14, rfl, hR14, hb14⟩
        obtain ⟨A14, c14, rfl, hc14, hrd14⟩ := Kd.R_reads hR14
        have HB14 := Aside0.mk (HB13.out.trans (hb14.mono HB13.out.size))
        have HR14 := Aside0.mk (Kd.C_below HR13.out hb14)
        have HQ14 := Aside0.mk hrd14
        have HL14 := Aside0.mk hc14
        clear hb14 HB13 HD13 hR14 hc14 hrd14 HR13
        go_wp2_with fail
        refine (texts_any A13 A14 c13 c14 _ _ w14 rfl HR14.out HL13.out HQ14.out HL14.out (by have := HBL.out; omega)).mono ?_
        rintro e w15 ⟨rfl, hb15⟩
        have HB := Aside0.mk (HB14.out.trans (hb15.mono HB14.out.size))
        clear hb15 HB14 HR14 HQ14
        go_wp2_with fail
        refine (awake_any w15).mono ?_
        rintro e wz ⟨rfl, hbz⟩
        have HBZ := Aside0.mk (HB.out.trans (hbz.mono HB.out.size))
        clear hbz
        go_wp2
        go_ret
        exact ⟨rfl, HBZ.out⟩

theorem plays_walk2 (A : Option Addr) (c : Nat) (l : List S41) (box who : ByteArray) (day : Int) (w : World) (hr : Kd.C k41 w A l.length l) (hc : l.length ≤ c) (hs : Sized4 l) (hb : box.size ≤ 140737488351232) (hw : who.size ≤ 140737488351232) (hd : (Lit.int .i64 day).wf = true) :
    Calls Try.prog 8 #[.slice A l.length c, .string box, .string who, .int .i64 day] w fun e w' => e = .returned (.bool true) ∧ Below w.heap.size w w' := plays_walk A c l box who day w hr hc hs

namespace CustodyPlaysRow
open Go.ChangeShapes Go.WideShapes Go.ChangeAt Go.RowKit
open Go.ChangeMaps (open_string shut_string)
theorem own : ownKnob Try.prog.godebug = none := by kernel_rfl
theorem laidOut : laidOutB Try.prog = true := by kernel_rfl
set_option maxRecDepth 100000 in
theorem lifted (os : Os) (started : os.Started) (H : Type) (enc : TypeId × Value → H) :
    ReturnsInHanded {} Try.checked os 8 .any (Rows.custodyPlaysSpec.pre6 enc Try.prog Try.f8 Rows.custodyPlaysRow.domain false) (Rows.custodyPlaysSpec.post enc Try.prog Try.f8 false true false false) := by
  refine returnsInHanded_of_change_sized (C := Try.checked) own started (by kernel_rfl) Try.func8
    (ChangeSpec.witness6 (enc := enc) (C := Try.checked) false ⟨#[], #[.slice none 0 0, .string ByteArray.empty, .string ByteArray.empty, .int .i64 0], []⟩ 8 (by kernel_rfl) (by kernel_rfl) (by kernel_rfl) (by kernel_rfl)) ?_
  intro W base args ds gs before hval0 hW hcnd hsz0 _
  have hsz : (DataW.weightsEach Try.prog (Try.f8.params.toList ++ Rows.custodyPlaysSpec.plain.varTypes Try.prog) (ds ++ gs)).all (· ≤ reachBytes) = true := hsz0
  have hval : ∀ (j : Nat) t v, Try.f8.params[j]? = some t → args[j]? = some v → Value.okWide Try.prog W .any base t v := hval0
  have hW' := hW
  obtain ⟨p, q, hA0, hV, rfl, hfz, hnd⟩ := hW
  have hA : DataW.TrodAll enc Try.prog W 0 (fun _ => true) true Try.f8.params.toList args.toList ds p := hA0
  rw [Try.params8] at hA hval hsz
  obtain ⟨v0, vs0, d0, ds0, p0, q0, hargs, rfl, rfl, h0, r0⟩ := trodAll_cons hA
  obtain ⟨v1, vs1, d1, ds1, p1, q1, rfl, rfl, rfl, h1, r1⟩ := trodAll_cons r0
  obtain ⟨v2, vs2, d2, ds2, p2, q2, rfl, rfl, rfl, h2, r2⟩ := trodAll_cons r1
  obtain ⟨v3, vs3, d3, ds3, p3, q3, rfl, rfl, rfl, h3, r3⟩ := trodAll_cons r2
  obtain ⟨rfl, rfl, rfl⟩ := trodAll_nil r3
  obtain rfl : args = #[v0, v1, v2, v3] := by cases args; simp_all
  obtain ⟨rfl, rfl⟩ := trodVars_none hV
  obtain ⟨a0, len0, cap0, rfl⟩ := okWide_slice Try.underlying22 (hval 0 22 v0 rfl rfl)
  have k0 := h0
  have lt0 : ∀ x ∈ p0, x.block < W.heap.size := by obtain ⟨m, hm⟩ := k0; exact DataW.trod_lt m _ _ _ hm
  obtain ⟨l0, rfl, hc0, hr0, hs0⟩ := open_hands hsz (j := 0) rfl rfl h0
  obtain ⟨a1, rfl, rfl, rfl, y1⟩ := open_string Try.underlying9 (hval 1 9 v1 rfl rfl) h1
  have w1 : a1.size ≤ 140737488351232 := by
    have z := sized_string hsz (j := 1) (t := 9) rfl rfl
    rw [Array.length_toList] at z
    exact z
  obtain ⟨a2, rfl, rfl, rfl, y2⟩ := open_string Try.underlying9 (hval 2 9 v2 rfl rfl) h2
  have w2 : a2.size ≤ 140737488351232 := by
    have z := sized_string hsz (j := 2) (t := 9) rfl rfl
    rw [Array.length_toList] at z
    exact z
  obtain ⟨a3, rfl, rfl, rfl, w3⟩ := open_int Try.underlying3 (hval 3 3 v3 rfl rfl) h3
  clear hA0 hval0 hsz0 hsz
  refine (plays_walk2 a0 cap0 l0 a1 a2 a3 W hr0 hc0 hs0 w1 w2 w3).mono fun e W' ⟨he, bel⟩ => ?_
  subst he
  exact ⟨_, rfl, _, _, _, [], _, [], hW', trodAll_mk1 (shut_bool Try.underlying4 _), (trodAll_cons_mk (Below.trod laidOut (by kernel_rfl) (of_decide_eq_true (by kernel_rfl)) k0 bel lt0) (trodAll_cons_mk (shut_string Try.underlying9 y1) (trodAll_cons_mk (shut_string Try.underlying9 y2) (trodAll_cons_mk (shut_int Try.underlying3 w3) trodAll_mk0)))), rfl, bel.frame _, fun h => by cases h⟩
theorem over : Rows.custodyPlaysRow.holds Try.pinned (OpenSpec.ofChange Rows.custodyPlaysSpec) :=
  OpenClaim.holds_of_wide 8 Try.f8 rfl rfl rfl rfl rfl rfl rfl ⟨rfl, rfl, rfl, rfl, rfl⟩ rfl rfl rfl rfl rfl (by kernel_rfl) Try.func8 (by kernel_rfl)
    (of_decide_eq_true (by kernel_rfl)) (by unfold Func.isWrapper; first | (rw [if_pos (by decide +kernel)]; kernel_rfl) | (rw [if_neg (by decide +kernel)]; exact ⟨rfl, rfl⟩))
    (fun os started H enc _ => lifted os started H enc)
end CustodyPlaysRow
/-- CustodyPlays, for every input. -/
theorem custodyPlays_holds : Rows.CustodyPlaysSaid := CustodyPlaysRow.over
end Go.Proofs.Ytonnhdffjbpgnaa
