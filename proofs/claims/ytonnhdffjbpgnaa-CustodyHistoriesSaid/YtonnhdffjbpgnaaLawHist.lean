/- The law CustodyHistories holds at every row of hand-overs, box and cut. Conditions: texts as a machine can hold. -/
import Derived.Test.YtonnhdffjbpgnaaLong
import Derived.Test.YtonnhdffjbpgnaaAwake
import Derived.Test.YtonnhdffjbpgnaaHist
import Derived.Test.YtonnhdffjbpgnaaAcc
import Derived.Test.YtonnhdffjbpgnaaRows
import Derived.WalkKit
import Derived.ChangeOld
import Derived.Below
set_option linter.unusedVariables false
set_option linter.unusedSimpArgs false
set_option linter.unusedSectionVars false
namespace Go.Proofs.Ytonnhdffjbpgnaa
open Go.RowKit Go.Proofs.YtonnhdffjbpgnaaW.PrintWords Go.Proofs.YtonnhdffjbpgnaaW.PrintLast Go.Proofs.YtonnhdffjbpgnaaW.PrintMore
open Q
attribute [local go_sem] max2_int min2_int max_two min_two

theorem check_n (A : Option Addr) (c n : Nat) (l : List S41) (w : World) (hr : Kd.C k41 w A n l) (hs : Sized l) (hlen : l.length ≤ 1000000) :
    Calls Try.prog 16 #[.slice A n c] w fun e w' => e = .returned (.tuple #[.int .i64 (checkP [] 0 l).1, .int .i64 (checkP [] 0 l).2]) ∧ Below w.heap.size w w' := by
  obtain rfl : l.length = n := hr.1
  exact check_any A c l w hr hs hlen
theorem play_n (A : Option Addr) (c n : Nat) (l : List S41) (w : World) (hr : Kd.C k41 w A n l) (hs : Sized l) (hlen : l.length ≤ 500) :
    Calls Try.prog 11 #[.slice A n c] w fun e w' => ∃ p r E v, e = .returned (.tuple #[.pointer (some ⟨p, 0, none⟩), v]) ∧
      ChainAt w' w.heap.size (Apart w.heap.size v) p E r ∧ Tells (hands E) (kept [] l) ∧ Small l.length (hands E) ∧ Kd.R k41 41 w' w.heap.size (fun k => w.heap.size ≤ k) v (kept [] l) ∧ Below w.heap.size w w' := by
  obtain rfl : l.length = n := hr.1
  exact play_any A c l w hr hs hlen

set_option maxRecDepth 100000 in
set_option maxHeartbeats 2000000 in
theorem histories_walk (A : Option Addr) (c : Nat) (l : List S41) (box : ByteArray) (cut : Int) (w : World) (hr : Kd.C k41 w A l.length l) (hc : l.length ≤ c) (hs : Sized4 l) (hb : box.size ≤ 140737488351232) (hd : (Lit.int .u8 cut).wf = true) :
    Calls Try.prog 5 #[.slice A l.length c, .string box, .int .u8 cut] w fun e w' => e = .returned (.bool true) ∧ Below w.heap.size w w' := by
  have hcut : 0 ≤ cut ∧ cut < 256 := by
    simp [Lit.wf] at hd
    have h1 : IntKind.u8.min = 0 := by decide
    have h2 : IntKind.u8.max = 255 := by decide
    omega
  have HCUT := Aside0.mk hcut
  have HR := Aside0.mk hr
  have HC := Aside0.mk hc
  have HS := Aside0.mk hs
  clear hr hc hs hb hd hcut
  go_enter Try.func5, Try.ntmps5
  go_wp2_with fail
  refine (long_any A c l w HR.out HC.out HS.out).mono ?_
  rintro e w1 ⟨rfl, hb1⟩
  have HB := Aside0.mk hb1
  clear hb1
  cases hlg : longB l with
  | true =>
    go_wp2_with fail
    refine (awake_any w1).mono ?_
    rintro e w2 ⟨rfl, hb2⟩
    have HB2 := Aside0.mk (HB.out.trans (hb2.mono HB.out.size))
    clear hb2
    go_wp2
    go_ret
    exact ⟨rfl, HB2.out⟩
  | false =>
    have HL := Aside0.mk (short_len hlg)
    have HZ := Aside0.mk (short_sized2 hlg)
    clear hlg
    by_cases hbx : (60 : Int) < box.size
    · go_wp2_with fail
      refine (awake_any w1).mono ?_
      rintro e w2 ⟨rfl, hb2⟩
      have HB2 := Aside0.mk (HB.out.trans (hb2.mono HB.out.size))
      clear hb2
      go_wp2
      go_ret
      exact ⟨rfl, HB2.out⟩
    · go_wp2_with fail
      refine (play_any A c l w1 (Kd.C_below HR.out HB.out) HZ.out (by have := HL.out; omega)).mono ?_
      rintro e w2 ⟨p1, r1, E1, v1, rfl, hC1, hT1, hS1, hR1, hb2⟩
      have HB2 := Aside0.mk (HB.out.trans (hb2.mono HB.out.size))
      have HC1 := Aside0.mk hC1
      have HG1 := Aside0.mk (hT1.get box)
      have HS1 : Aside0 (Small 1000000 (hands E1)) := ⟨⟨by have := hS1.1; have := HL.out; omega, fun x hx => by have := hS1.2 x hx; have := HL.out; omega⟩⟩
      clear hC1 hT1 hS1 hR1 hb2 HB
      obtain ⟨own, hown⟩ : ∃ own, own = ownP (kept [] l) box := ⟨_, rfl⟩
      have HO1 : Aside0 (hget (hands E1) box = own) := ⟨by rw [HG1.out, hown]⟩
      have HOL : Aside0 (own.length ≤ 60) := ⟨by rw [hown]; have h1 := kept_len l []; have h2 := ownP_len (kept [] l) box; have := HL.out; simp at h1; omega⟩
      have HACC : Aside0 (Acc [] own) := ⟨by rw [hown]; exact acc_box (by have := HL.out; omega)⟩
      have HALL : Aside0 (∀ n, ownP (own.take n) box = own.take n) := ⟨fun n => by rw [hown]; exact box_all n⟩
      have HSZ : Aside0 (Sized own) := ⟨by
        rw [hown]
        refine ownP_sized (fun x hx => ?_) box
        rcases kept_mem l [] x hx with h | h
        · simp at h
        · exact HZ.out x h⟩
      clear hown HG1
      go_wp2_with fail
      refine (history_any _ _ p1 r1 E1 box w2 HC1.out HS1.out).mono ?_
      rintro e w3 ⟨v3, rfl, hR3, hb3⟩
      rw [HO1.out] at hR3
      obtain ⟨A3, c3, rfl, hc3, hrd3⟩ := Kd.R_reads hR3
      have HB3 := Aside0.mk (HB2.out.trans (hb3.mono HB2.out.size))
      have HR3 := Aside0.mk hrd3
      have HC3 := Aside0.mk hc3
      clear hb3 HB2 HC1 hR3 hrd3 hc3
      obtain ⟨q, rfl⟩ : ∃ q : Nat, cut = (q : Int) := ⟨cut.toNat, by have := HCUT.out; omega⟩
      have hq : q < 256 := by have := HCUT.out; omega
      by_cases hqn : q ≤ own.length
      · have hqc : q ≤ c3 := by have := HC3.out; omega
        have HM : Aside0 (q ≤ own.length) := ⟨by omega⟩
        have HCK : Aside0 (checkP [] 0 (own.take q) = (((q : Nat) : Int), 0)) := ⟨by
          have hl : (own.take q).length = q := by rw [List.length_take]; have := HM.out; omega
          rw [check_ref _ [] [] 0 Tells.nil (by have := HOL.out; have := HM.out; simp; omega), acc_ref _ [] 0 (acc_take q HACC.out), hl]
          simp⟩
        have HSZ2 : Aside0 (Sized (own.take q)) := ⟨fun x hx => HSZ.out x (List.mem_of_mem_take hx)⟩
        go_wp2_with fail
        refine (check_n A3 c3 q (own.take q) w3 (hand_take HR3.out q HM.out) HSZ2.out (by have := HOL.out; simp; omega)).mono ?_
        rintro e w4 ⟨rfl, hb4⟩
        have HB4 := Aside0.mk (HB3.out.trans (hb4.mono HB3.out.size))
        have HR4 := Aside0.mk (Kd.C_below HR3.out hb4)
        rw [HCK.out]
        clear hb4 HB3 HR3 HCK
        by_cases hm0 : q = 0
        · have hm0' : (((q : Nat) : Int) == 0) = true := by simp [hm0]
          go_wp2_with fail
          refine (awake_any w4).mono ?_
          rintro e w5 ⟨rfl, hb5⟩
          have HB5 := Aside0.mk (HB4.out.trans (hb5.mono HB4.out.size))
          clear hb5
          go_wp2
          go_ret
          exact ⟨rfl, HB5.out⟩
        · have hm0' : (((q : Nat) : Int) == 0) = false := by simpa using hm0
          have hm1 : (0 : Int) ≤ ((q : Nat) : Int) - 1 := by omega
          have hm2 : ((q : Nat) : Int) - 1 < (own.length : Int) := by have := HM.out; omega
          obtain ⟨init, last, hcat, hlast⟩ : ∃ init last, own.take q = init ++ [last] ∧ rd_T41 own (((q : Nat) : Int) - 1) = last := by
            refine ⟨own.take (q - 1), rd_T41 own (((q : Nat) : Int) - 1), ?_, rfl⟩
            obtain ⟨j, hj⟩ : ∃ j, q = j + 1 := ⟨q - 1, by omega⟩
            have hjl : j < own.length := by have := HM.out; omega
            rw [hj, Nat.add_sub_cancel, List.take_add_one, List.getElem?_eq_getElem hjl]
            unfold rd_T41
            have : (((j + 1 : Nat) : Int) - 1).toNat = j := by omega
            rw [this, List.getD_eq_getElem?_getD, List.getElem?_eq_getElem hjl]
            rfl
          have HNOW : Aside0 (asP (own.take q) 1048576 = (last.f2, last.f3, true)) := ⟨by rw [hcat]; exact acc_now (by rw [← hcat]; exact acc_take q HACC.out)⟩
          obtain ⟨ad, rfl, l0, l1, l2, l3, l4⟩ := at_T41 HR4.out (((q : Nat) : Int) - 1) hm1 hm2
          rw [hlast, show (((q : Nat) : Int) - 1).toNat = q - 1 by omega] at l0 l1 l2 l3 l4
          clear hcat hlast hm0
          go_wp2_with fail
          refine (play_n (some ad) c3 q (own.take q) w4 (hand_take HR4.out q HM.out) HSZ2.out (by have := HOL.out; simp; omega)).mono ?_
          rintro e w5 ⟨p2, r2, E2, v2, rfl, hC2, hT2, hS2, hR2, hb5⟩
          have HB5 := Aside0.mk (HB4.out.trans (hb5.mono HB4.out.size))
          have HC2 := Aside0.mk hC2
          have HG2 : Aside0 (hget (hands E2) box = own.take q) := ⟨by rw [hT2.get box, acc_same _ [] (acc_take q HACC.out), List.nil_append, HALL.out]⟩
          replace l0 := (hb5.cell (World.block_lt_of_cell? w4 _ l0)).trans l0
          replace l1 := (hb5.cell (World.block_lt_of_cell? w4 _ l1)).trans l1
          replace l2 := (hb5.cell (World.block_lt_of_cell? w4 _ l2)).trans l2
          replace l3 := (hb5.cell (World.block_lt_of_cell? w4 _ l3)).trans l3
          replace l4 := (hb5.cell (World.block_lt_of_cell? w4 _ l4)).trans l4
          clear hC2 hT2 hS2 hR2 hb5 HB4 HR4
          go_wp2_with fail
          refine (now_any _ _ p2 r2 E2 box w5 HC2.out).mono ?_
          rintro e w6 ⟨rfl, hb6⟩
          have HB6 := Aside0.mk (HB5.out.trans (hb6.mono HB5.out.size))
          rw [HG2.out, HNOW.out]
          replace l0 := (hb6.cell (World.block_lt_of_cell? w5 _ l0)).trans l0
          replace l1 := (hb6.cell (World.block_lt_of_cell? w5 _ l1)).trans l1
          replace l2 := (hb6.cell (World.block_lt_of_cell? w5 _ l2)).trans l2
          replace l3 := (hb6.cell (World.block_lt_of_cell? w5 _ l3)).trans l3
          replace l4 := (hb6.cell (World.block_lt_of_cell? w5 _ l4)).trans l4
          clear hb6 HB5 HC2 HG2 HNOW
          go_wp2_with fail
          refine (awake_any _).mono ?_
          rintro e w7 ⟨rfl, hb7⟩
          have HB7 := Aside0.mk ((below_alloc HB6.out _).trans (hb7.mono (by have := HB6.out.size; simp; omega)))
          clear hb7
          go_wp2
          go_ret
          exact ⟨rfl, HB7.out⟩
      · have hqc : own.length ≤ c3 := HC3.out
        have HM : Aside0 (own.length ≤ own.length) := ⟨by omega⟩
        have HCK : Aside0 (checkP [] 0 (own.take own.length) = (((own.length : Nat) : Int), 0)) := ⟨by
          have hl : (own.take own.length).length = own.length := by simp
          rw [check_ref _ [] [] 0 Tells.nil (by have := HOL.out; have := HM.out; simp; omega), acc_ref _ [] 0 (acc_take own.length HACC.out), hl]
          simp⟩
        have HSZ2 : Aside0 (Sized (own.take own.length)) := ⟨fun x hx => HSZ.out x (List.mem_of_mem_take hx)⟩
        go_wp2_with fail
        refine (check_n A3 c3 own.length (own.take own.length) w3 (hand_take HR3.out own.length HM.out) HSZ2.out (by have := HOL.out; simp; omega)).mono ?_
        rintro e w4 ⟨rfl, hb4⟩
        have HB4 := Aside0.mk (HB3.out.trans (hb4.mono HB3.out.size))
        have HR4 := Aside0.mk (Kd.C_below HR3.out hb4)
        rw [HCK.out]
        clear hb4 HB3 HR3 HCK
        by_cases hm0 : own.length = 0
        · have hm0' : (((own.length : Nat) : Int) == 0) = true := by simp [hm0]
          go_wp2_with fail
          refine (awake_any w4).mono ?_
          rintro e w5 ⟨rfl, hb5⟩
          have HB5 := Aside0.mk (HB4.out.trans (hb5.mono HB4.out.size))
          clear hb5
          go_wp2
          go_ret
          exact ⟨rfl, HB5.out⟩
        · have hm0' : (((own.length : Nat) : Int) == 0) = false := by simpa using hm0
          have hm1 : (0 : Int) ≤ ((own.length : Nat) : Int) - 1 := by omega
          have hm2 : ((own.length : Nat) : Int) - 1 < (own.length : Int) := by have := HM.out; omega
          obtain ⟨init, last, hcat, hlast⟩ : ∃ init last, own.take own.length = init ++ [last] ∧ rd_T41 own (((own.length : Nat) : Int) - 1) = last := by
            refine ⟨own.take (own.length - 1), rd_T41 own (((own.length : Nat) : Int) - 1), ?_, rfl⟩
            obtain ⟨j, hj⟩ : ∃ j, own.length = j + 1 := ⟨own.length - 1, by omega⟩
            have hjl : j < own.length := by have := HM.out; omega
            rw [hj, Nat.add_sub_cancel, List.take_add_one, List.getElem?_eq_getElem hjl]
            unfold rd_T41
            have : (((j + 1 : Nat) : Int) - 1).toNat = j := by omega
            rw [this, List.getD_eq_getElem?_getD, List.getElem?_eq_getElem hjl]
            rfl
          have HNOW : Aside0 (asP (own.take own.length) 1048576 = (last.f2, last.f3, true)) := ⟨by rw [hcat]; exact acc_now (by rw [← hcat]; exact acc_take own.length HACC.out)⟩
          obtain ⟨ad, rfl, l0, l1, l2, l3, l4⟩ := at_T41 HR4.out (((own.length : Nat) : Int) - 1) hm1 hm2
          rw [hlast, show (((own.length : Nat) : Int) - 1).toNat = own.length - 1 by omega] at l0 l1 l2 l3 l4
          clear hcat hlast hm0
          go_wp2_with fail
          refine (play_n (some ad) c3 own.length (own.take own.length) w4 (hand_take HR4.out own.length HM.out) HSZ2.out (by have := HOL.out; simp; omega)).mono ?_
          rintro e w5 ⟨p2, r2, E2, v2, rfl, hC2, hT2, hS2, hR2, hb5⟩
          have HB5 := Aside0.mk (HB4.out.trans (hb5.mono HB4.out.size))
          have HC2 := Aside0.mk hC2
          have HG2 : Aside0 (hget (hands E2) box = own.take own.length) := ⟨by rw [hT2.get box, acc_same _ [] (acc_take own.length HACC.out), List.nil_append, HALL.out]⟩
          replace l0 := (hb5.cell (World.block_lt_of_cell? w4 _ l0)).trans l0
          replace l1 := (hb5.cell (World.block_lt_of_cell? w4 _ l1)).trans l1
          replace l2 := (hb5.cell (World.block_lt_of_cell? w4 _ l2)).trans l2
          replace l3 := (hb5.cell (World.block_lt_of_cell? w4 _ l3)).trans l3
          replace l4 := (hb5.cell (World.block_lt_of_cell? w4 _ l4)).trans l4
          clear hC2 hT2 hS2 hR2 hb5 HB4 HR4
          go_wp2_with fail
          refine (now_any _ _ p2 r2 E2 box w5 HC2.out).mono ?_
          rintro e w6 ⟨rfl, hb6⟩
          have HB6 := Aside0.mk (HB5.out.trans (hb6.mono HB5.out.size))
          rw [HG2.out, HNOW.out]
          replace l0 := (hb6.cell (World.block_lt_of_cell? w5 _ l0)).trans l0
          replace l1 := (hb6.cell (World.block_lt_of_cell? w5 _ l1)).trans l1
          replace l2 := (hb6.cell (World.block_lt_of_cell? w5 _ l2)).trans l2
          replace l3 := (hb6.cell (World.block_lt_of_cell? w5 _ l3)).trans l3
          replace l4 := (hb6.cell (World.block_lt_of_cell? w5 _ l4)).trans l4
          clear hb6 HB5 HC2 HG2 HNOW
          go_wp2_with fail
          refine (awake_any _).mono ?_
          rintro e w7 ⟨rfl, hb7⟩
          have HB7 := Aside0.mk ((below_alloc HB6.out _).trans (hb7.mono (by have := HB6.out.size; simp; omega)))
          clear hb7
          go_wp2
          go_ret
          exact ⟨rfl, HB7.out⟩

namespace CustodyHistoriesRow
open Go.ChangeShapes Go.WideShapes Go.ChangeAt Go.RowKit
open Go.ChangeMaps (open_string shut_string)
theorem own : ownKnob Try.prog.godebug = none := by kernel_rfl
theorem laidOut : laidOutB Try.prog = true := by kernel_rfl
set_option maxRecDepth 100000 in
theorem lifted (os : Os) (started : os.Started) (H : Type) (enc : TypeId × Value → H) :
    ReturnsInHanded {} Try.checked os 5 .any (Rows.custodyHistoriesSpec.pre6 enc Try.prog Try.f5 Rows.custodyHistoriesRow.domain false) (Rows.custodyHistoriesSpec.post enc Try.prog Try.f5 false true false false) := by
  refine returnsInHanded_of_change_sized (C := Try.checked) own started (by kernel_rfl) Try.func5
    (ChangeSpec.witness6 (enc := enc) (C := Try.checked) false ⟨#[], #[.slice none 0 0, .string ByteArray.empty, .int .u8 0], []⟩ 8 (by kernel_rfl) (by kernel_rfl) (by kernel_rfl) (by kernel_rfl)) ?_
  intro W base args ds gs before hval0 hW hcnd hsz0 _
  have hsz : (DataW.weightsEach Try.prog (Try.f5.params.toList ++ Rows.custodyHistoriesSpec.plain.varTypes Try.prog) (ds ++ gs)).all (· ≤ reachBytes) = true := hsz0
  have hval : ∀ (j : Nat) t v, Try.f5.params[j]? = some t → args[j]? = some v → Value.okWide Try.prog W .any base t v := hval0
  have hW' := hW
  obtain ⟨p, q, hA0, hV, rfl, hfz, hnd⟩ := hW
  have hA : DataW.TrodAll enc Try.prog W 0 (fun _ => true) true Try.f5.params.toList args.toList ds p := hA0
  rw [Try.params5] at hA hval hsz
  obtain ⟨v0, vs0, d0, ds0, p0, q0, hargs, rfl, rfl, h0, r0⟩ := trodAll_cons hA
  obtain ⟨v1, vs1, d1, ds1, p1, q1, rfl, rfl, rfl, h1, r1⟩ := trodAll_cons r0
  obtain ⟨v2, vs2, d2, ds2, p2, q2, rfl, rfl, rfl, h2, r2⟩ := trodAll_cons r1
  obtain ⟨rfl, rfl, rfl⟩ := trodAll_nil r2
  obtain rfl : args = #[v0, v1, v2] := by cases args; simp_all
  obtain ⟨rfl, rfl⟩ := trodVars_none hV
  obtain ⟨a0, len0, cap0, rfl⟩ := okWide_slice Try.underlying22 (hval 0 22 v0 rfl rfl)
  have k0 := h0
  have lt0 : ∀ x ∈ p0, x.block < W.heap.size := by obtain ⟨m, hm⟩ := k0; exact DataW.trod_lt m _ _ _ hm
  obtain ⟨l0, rfl, hc0, hr0, hs0⟩ := open_hands hsz (j := 0) rfl rfl h0
  obtain ⟨a1, rfl, rfl, rfl, y1⟩ := open_string Try.underlying9 (hval 1 9 v1 rfl rfl) h1
  have w1 : a1.size ≤ 140737488351232 := by
    have z := sized_string hsz (j := 1) (t := 9) rfl rfl
    rw [Array.length_toList] at z
    exact z
  obtain ⟨a2, rfl, rfl, rfl, w2⟩ := open_int Try.underlying5 (hval 2 5 v2 rfl rfl) h2
  clear hA0 hval0 hsz0 hsz
  refine (histories_walk a0 cap0 l0 a1 a2 W hr0 hc0 hs0 w1 w2).mono fun e W' ⟨he, bel⟩ => ?_
  subst he
  exact ⟨_, rfl, _, _, _, [], _, [], hW', trodAll_mk1 (shut_bool Try.underlying4 _), (trodAll_cons_mk (Below.trod laidOut (by kernel_rfl) (of_decide_eq_true (by kernel_rfl)) k0 bel lt0) (trodAll_cons_mk (shut_string Try.underlying9 y1) (trodAll_cons_mk (shut_int Try.underlying5 w2) trodAll_mk0))), rfl, bel.frame _, fun h => by cases h⟩
theorem over : Rows.custodyHistoriesRow.holds Try.pinned (OpenSpec.ofChange Rows.custodyHistoriesSpec) :=
  OpenClaim.holds_of_wide 5 Try.f5 rfl rfl rfl rfl rfl rfl rfl ⟨rfl, rfl, rfl, rfl, rfl⟩ rfl rfl rfl rfl rfl (by kernel_rfl) Try.func5 (by kernel_rfl)
    (of_decide_eq_true (by kernel_rfl)) (by unfold Func.isWrapper; first | (rw [if_pos (by decide +kernel)]; kernel_rfl) | (rw [if_neg (by decide +kernel)]; exact ⟨rfl, rfl⟩))
    (fun os started H enc _ => lifted os started H enc)
end CustodyHistoriesRow
/-- CustodyHistories, for every input. -/
theorem custodyHistories_holds : Rows.CustodyHistoriesSaid := CustodyHistoriesRow.over
end Go.Proofs.Ytonnhdffjbpgnaa
