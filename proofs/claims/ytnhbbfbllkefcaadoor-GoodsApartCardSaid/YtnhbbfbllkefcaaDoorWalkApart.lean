/- The law GoodsApart, walked: it tells true. Conditions: the table of classes lies as the text lays it. -/
import Derived.Test.YtnhbbfbllkefcaaDoorAwake
set_option linter.unusedVariables false
set_option linter.unusedSimpArgs false
set_option linter.unusedSectionVars false
namespace Go.Proofs.YtnhbbfbllkefcaaDoor
open Go.RowKit Go.Proofs.YtnhbbfbllkefcaaDoorW.PrintWords Go.Proofs.YtnhbbfbllkefcaaDoorW.PrintLast Go.Proofs.YtnhbbfbllkefcaaDoorW.PrintMore
open Q

theorem goodsApart_walk (a b : Int) (w : World) (h : AptAt w) : Calls Tryd.prog 3 #[.int .i64 a, .int .i64 b] w fun e w' => e = .returned (.bool true) ∧ Below w.heap.size w w' := by
  have HA := Aside0.mk h
  have HAP := Aside0.mk (fun (W : World) (hb : Below w.heap.size w W) (a b : Int) => apart_any a b W (HA.out.below hb))
  have HRF := Aside0.mk (fun (W : World) => refApart_any a b W)
  have HBA := Aside0.mk (fun (W : World) (hb : Below w.heap.size w W) => apart_comm b a ▸ HAP.out W hb b a)
  have HAA := Aside0.mk (fun (W : World) (hb : Below w.heap.size w W) => apart_self a ▸ HAP.out W hb a a)
  have H0A := Aside0.mk (fun (W : World) (hb : Below w.heap.size w W) => apart_zero a ▸ HAP.out W hb 0 a)
  have H1A := Aside0.mk (fun (W : World) (hb : Below w.heap.size w W) => apart_one a ▸ HAP.out W hb 1 a)
  obtain ⟨p, hp⟩ : ∃ p, p = apartB a b := ⟨_, rfl⟩
  have HAB := Aside0.mk (fun (W : World) (hb : Below w.heap.size w W) => HAP.out W hb a b)
  rw [← hp] at HAB HRF HBA
  clear h hp
  go_enter Tryd.func3, Tryd.ntmps3
  go_wp2_with fail
  refine (awake_any _ HA.out).mono ?_
  rintro e w1 ⟨rfl, hb1⟩
  have HB1 := Aside0.mk hb1
  clear hb1
  go_wp2_with fail
  refine (HAB.out _ HB1.out).mono ?_
  rintro e w2 ⟨rfl, n2, rfl⟩
  have HB2 : Aside0 (Below w.heap.size w (w1.drewN n2)) := ⟨pw_below_drewN HB1.out n2⟩
  clear HB1
  generalize w1.drewN n2 = w3 at HB2 ⊢
  go_wp2_with fail
  refine (HRF.out _).mono ?_
  rintro e w4 ⟨rfl, hb4⟩
  have HB4 := Aside0.mk (HB2.out.trans (hb4.mono HB2.out.size))
  clear hb4 HB2
  have hpp : (p != p) = false := by simp
  go_wp2_with fail
  refine (HAB.out _ HB4.out).mono ?_
  rintro e w5 ⟨rfl, n5, rfl⟩
  have HB5 : Aside0 (Below w.heap.size w (w4.drewN n5)) := ⟨pw_below_drewN HB4.out n5⟩
  clear HB4
  generalize w4.drewN n5 = w6 at HB5 ⊢
  go_wp2_with fail
  refine (HBA.out _ HB5.out).mono ?_
  rintro e w7 ⟨rfl, n7, rfl⟩
  have HB7 : Aside0 (Below w.heap.size w (w6.drewN n7)) := ⟨pw_below_drewN HB5.out n7⟩
  clear HB5
  generalize w6.drewN n7 = w8 at HB7 ⊢
  go_wp2_with fail
  refine (HAA.out _ HB7.out).mono ?_
  rintro e w9 ⟨rfl, n9, rfl⟩
  have HB9 : Aside0 (Below w.heap.size w (w8.drewN n9)) := ⟨pw_below_drewN HB7.out n9⟩
  clear HB7
  generalize w8.drewN n9 = w10 at HB9 ⊢
  go_wp2_with fail
  refine (H0A.out _ HB9.out).mono ?_
  rintro e w11 ⟨rfl, n11, rfl⟩
  have HB11 : Aside0 (Below w.heap.size w (w10.drewN n11)) := ⟨pw_below_drewN HB9.out n11⟩
  clear HB9
  generalize w10.drewN n11 = w12 at HB11 ⊢
  go_wp2_with fail
  by_cases h2 : 2 ≤ a
  · have h2b : decide (2 ≤ a) = true := by simpa using h2
    refine (H1A.out _ HB11.out).mono ?_
    rintro e w13 ⟨rfl, n13, rfl⟩
    have HB13 : Aside0 (Below w.heap.size w (w12.drewN n13)) := ⟨pw_below_drewN HB11.out n13⟩
    rw [h2b, Bool.true_and]
    by_cases h9 : a ≤ 9
    · go_wp2
      go_ret
      exact ⟨rfl, HB13.out⟩
    · go_wp2
      go_ret
      exact ⟨rfl, HB13.out⟩
  · have h2b : decide (2 ≤ a) = false := by simpa using h2
    refine (H1A.out _ HB11.out).mono ?_
    rintro e w13 ⟨rfl, n13, rfl⟩
    have HB13 : Aside0 (Below w.heap.size w (w12.drewN n13)) := ⟨pw_below_drewN HB11.out n13⟩
    rw [h2b, Bool.false_and]
    go_wp2
    go_ret
    exact ⟨rfl, HB13.out⟩
end Go.Proofs.YtnhbbfbllkefcaaDoor
