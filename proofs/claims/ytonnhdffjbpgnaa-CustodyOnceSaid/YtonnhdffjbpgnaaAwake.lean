/- The chapter's example holds. Conditions: none. -/
import Derived.Test.YtonnhdffjbpgnaaAs
import Derived.Test.YtonnhdffjbpgnaaDo
set_option linter.unusedVariables false
set_option linter.unusedSimpArgs false
set_option linter.unusedSectionVars false
namespace Go.Proofs.Ytonnhdffjbpgnaa
open Go.RowKit Go.Proofs.YtonnhdffjbpgnaaW.PrintWords Go.Proofs.YtonnhdffjbpgnaaW.PrintLast Go.Proofs.YtonnhdffjbpgnaaW.PrintMore
open Q

abbrev exB : ByteArray := ⟨#[98]⟩
abbrev exS : ByteArray := ⟨#[115]⟩
abbrev exC : ByteArray := ⟨#[99]⟩
abbrev exR : ByteArray := ⟨#[114, 105, 103, 97]⟩
abbrev exH : S41 := ⟨exB, exS, exC, exR, 4⟩

theorem exB_ok : nameB exB = true := by unfold nameB; rw [ByteArray.toList_eq]; decide
theorem exS_ok : nameB exS = true := by unfold nameB; rw [ByteArray.toList_eq]; decide
theorem exC_ok : nameB exC = true := by unfold nameB; rw [ByteArray.toList_eq]; decide
theorem exR_ok : nameB exR = true := by unfold nameB; rw [ByteArray.toList_eq]; decide
theorem ex_begin : beginE [] exB exS exR 3 = 0 := by simp [beginE, nm3, exB_ok, exS_ok, exR_ok, dayB, hget]
theorem ex_beginM : beginM [] exB exS exR 3 = [(exB, [⟨exB, ⟨#[]⟩, exS, exR, 3⟩])] := by rw [beginM, if_pos ex_begin]; rfl
theorem ex_hand : handE [(exB, [⟨exB, ⟨#[]⟩, exS, exR, 3⟩])] exH = 0 := by simp [handE, nm4, exB_ok, exS_ok, exC_ok, exR_ok, dayB, hget, ByteArray.toList_eq]
theorem ex_handM : handM [(exB, [⟨exB, ⟨#[]⟩, exS, exR, 3⟩])] exH = [(exB, [⟨exB, ⟨#[]⟩, exS, exR, 3⟩, exH])] := by rw [handM, if_pos ex_hand]; rfl
theorem ex_get : hget [(exB, [⟨exB, ⟨#[]⟩, exS, exR, 3⟩, exH])] exB = [⟨exB, ⟨#[]⟩, exS, exR, 3⟩, exH] := by rfl

set_option maxRecDepth 100000 in
theorem awake_any (w : World) : Calls Try.prog 10 #[] w fun e w' => e = .returned (.bool true) ∧ Below w.heap.size w w' := by
  go_enter Try.func10, Try.ntmps10
  go_wp2_with fail
  refine (new_any w.heap.size (fun k => w.heap.size ≤ k) w (Nat.le_refl _) (fun k hk => hk)).mono ?_
  rintro e w1 ⟨p, r, rfl, hC, hb⟩
  have HC := Aside0.mk hC
  have HB := Aside0.mk hb
  clear hC hb
  go_wp2_with fail
  refine (begin_any w.heap.size _ p r [] exB exS exR 3 w1 HC.out HB.out.size (fun k hk => Nat.le_trans HB.out.size hk) (by decide) (by decide) (by decide) (by simp)).mono ?_
  rintro e w2 ⟨E2, rfl, hC2, hh2, hT2⟩
  have hB2 := HB.out.trans (hT2.below HB.out.size (fun k hk => by omega))
  have hh2' : hands E2 = [(exB, [⟨exB, ⟨#[]⟩, exS, exR, 3⟩])] := by rw [hh2]; exact ex_beginM
  have HC2 := Aside0.mk hC2
  have HB2 := Aside0.mk hB2
  have HH2 := Aside0.mk hh2'
  have e1 : beginE (hands []) exB exS exR 3 = 0 := ex_begin
  rw [e1]
  clear hC2 hB2 hh2 hh2' hT2 e1
  go_wp2_with fail
  refine (hand_any w.heap.size _ p r E2 exH w2 HC2.out HB2.out.size (fun k hk => Nat.le_trans HB2.out.size hk) (by decide) (by rw [HH2.out]; exact ⟨by simp, by simp⟩)).mono ?_
  rintro e w3 ⟨E3, rfl, hC3, hh3, hT3⟩
  have hB3 := HB2.out.trans (hT3.below HB2.out.size (fun k hk => by omega))
  have hh3' : hands E3 = [(exB, [⟨exB, ⟨#[]⟩, exS, exR, 3⟩, exH])] := by rw [hh3, HH2.out]; exact ex_handM
  have HC3 := Aside0.mk hC3
  have HB3 := Aside0.mk hB3
  have HH3 := Aside0.mk hh3'
  have e2 : handE (hands E2) exH = 0 := by rw [HH2.out]; exact ex_hand
  rw [e2]
  clear hC3 hB3 hh3 hh3' hT3 e2
  go_wp2_with fail
  have hx : hget (hands E3) exB = [⟨exB, ⟨#[]⟩, exS, exR, 3⟩, exH] := by rw [HH3.out]; exact ex_get
  have HX := Aside0.mk hx
  clear hx
  have a3 : asP [⟨exB, ⟨#[]⟩, exS, exR, 3⟩, exH] 3 = (exS, exR, true) := by decide
  have a4 : asP [⟨exB, ⟨#[]⟩, exS, exR, 3⟩, exH] 4 = (exC, exR, true) := by decide
  have a2 : asP [⟨exB, ⟨#[]⟩, exS, exR, 3⟩, exH] 2 = (⟨#[]⟩, ⟨#[]⟩, false) := by decide
  refine (as_any w.heap.size _ p r E3 exB 3 w3 HC3.out).mono ?_
  rintro e w4 ⟨rfl, hb4⟩
  have HB4 := Aside0.mk (HB3.out.trans (hb4.mono HB3.out.size))
  have HC4 := Aside0.mk (HC3.out.below hb4)
  rw [HX.out, a3]
  clear hb4
  go_wp2_with fail
  refine (as_any w.heap.size _ p r E3 exB 4 w4 HC4.out).mono ?_
  rintro e w5 ⟨rfl, hb5⟩
  have HB5 := Aside0.mk (HB4.out.trans (hb5.mono HB4.out.size))
  have HC5 := Aside0.mk (HC4.out.below hb5)
  rw [HX.out, a4]
  clear hb5
  go_wp2_with fail
  refine (as_any w.heap.size _ p r E3 exB 2 w5 HC5.out).mono ?_
  rintro e w6 ⟨rfl, hb6⟩
  have HB6 := Aside0.mk (HB5.out.trans (hb6.mono HB5.out.size))
  rw [HX.out, a2]
  clear hb6 a2 a3 a4
  go_wp2
  go_ret
  exact ⟨rfl, HB6.out⟩
end Go.Proofs.Ytonnhdffjbpgnaa
