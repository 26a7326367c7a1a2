/- A hand-over of a chain's box: which error, and what the chain is behind it. Conditions: none. -/
import Derived.Test.YtonnhdffjbpgnaaBegin
import Derived.Deep.RegionHeld3
import Derived.Deep.QuietTactic
import Derived.BigQuiet
import Derived.Deep.AppendLies
set_option linter.unusedVariables false
set_option linter.unusedSimpArgs false
set_option linter.unusedSectionVars false
namespace Go.Proofs.Ytonnhdffjbpgnaa
open Go.RowKit Go.Proofs.YtonnhdffjbpgnaaW.PrintWords Go.Proofs.YtonnhdffjbpgnaaW.PrintLast Go.Proofs.YtonnhdffjbpgnaaW.PrintMore
open Q

/-- What is wrong first with a hand-over. -/
def handE (M : List (ByteArray × List S41)) (h : S41) : Int :=
  if nm4 h.f0 h.f1 h.f2 h.f3 = false ∨ h.f1.toList = h.f2.toList then 1 else if dayB h.f4 = false then 3 else
    match (hget M h.f0).getLast? with
    | none => 4
    | some last => if last.f2.toList ≠ h.f1.toList then 8 else if h.f4 < last.f4 then 6 else if 4096 ≤ (hget M h.f0).length then 7 else 0
def handM (M : List (ByteArray × List S41)) (h : S41) : List (ByteArray × List S41) :=
  if handE M h = 0 then M.map fun x => if x.1 = h.f0 then (x.1, x.2 ++ [h]) else x else M

theorem handE_of {M : List (ByteArray × List S41)} {h last : S41} (h1 : nm4 h.f0 h.f1 h.f2 h.f3 = true) (h2 : (h.f1.toList == h.f2.toList) = false) (h3 : (!dayB h.f4) = false) (hl : (hget M h.f0).getLast? = some last) :
    handE M h = if last.f2.toList ≠ h.f1.toList then 8 else if h.f4 < last.f4 then 6 else if 4096 ≤ (hget M h.f0).length then 7 else 0 := by
  have h2' : ¬ h.f1.toList = h.f2.toList := by simpa using h2
  have h3' : dayB h.f4 = true := by simpa using h3
  simp [handE, h1, h2', h3', hl]

abbrev handV (h : S41) : Value := .agg #[.string h.f0, .string h.f1, .string h.f2, .string h.f3, .int .i64 h.f4]
abbrev handO (h : S41) : Obj := .cells #[.string h.f0, .string h.f1, .string h.f2, .string h.f3, .int .i64 h.f4] 41

theorem hand_cells {w : World} {g : Nat} {h : S41} (hh : w.heap[g]? = some (handO h)) : w.cell? ⟨g, 0, none⟩ = some (.string h.f0) ∧ w.cell? ⟨g, 1, none⟩ = some (.string h.f1) ∧ w.cell? ⟨g, 2, none⟩ = some (.string h.f2) ∧ w.cell? ⟨g, 3, none⟩ = some (.string h.f3) ∧ w.cell? ⟨g, 4, none⟩ = some (.int .i64 h.f4) := by
  simp [World.cell?, hh]

set_option maxRecDepth 100000 in
theorem hand_miss (B : Nat) (ok : Nat → Prop) (p r : Nat) (E : List BoxRow) (f0 f1 f2 f3 : ByteArray) (f4 : Int) (w : World) (hC : ChainAt w B ok p E r) (hB : B ≤ w.heap.size)
    (hS : ∀ s ∈ [f0, f1, f2, f3], s.size ≤ maxLen) (hm : mget (E.map fun x => (x.1, x.2.1)) f0 = none) (hg : hget (hands E) f0 = []) :
    Calls Try.prog 22 #[.pointer (some ⟨p, 0, none⟩), handV ⟨f0, f1, f2, f3, f4⟩] w fun e w' =>
      e = .returned (.int .i64 (handE (hands E) ⟨f0, f1, f2, f3, f4⟩)) ∧ handE (hands E) ⟨f0, f1, f2, f3, f4⟩ ≠ 0 ∧ Below w.heap.size w w' := by
  have hc := hC.cell
  have HC := Aside0.mk hC
  have HS := Aside0.mk hS
  have hplt := hC.plt
  have hlk := fun n => run_lookup_miss (P := Try.prog) (strKey Try.underlying9) Try.underlying63 ((hC.map.alloc (handO ⟨f0, f1, f2, f3, f4⟩)).drewN n) f0 hm (zero22 _) true
  simp only [if_true] at hlk
  have HG := Aside0.mk hg
  clear hC hm hg hS
  go_enter Try.func22, Try.ntmps22
  go_wp2_with fail
  go_quiet (fail)
  go_wp2_with fail
  refine (nm4_any f0 f1 f2 f3 _ _ (by simp) HS.out).mono ?_
  rintro e w1 ⟨rfl, hb1⟩
  have HB1 := Aside0.mk (((Below.refl w.heap.size w).alloc (Nat.le_refl _) (handO ⟨f0, f1, f2, f3, f4⟩)).trans ((pw_below_drewN (Below.refl _ _) _).trans (hb1.mono (Nat.le_succ _))))
  have hh1 : w1.heap[w.heap.size]? = some (handO ⟨f0, f1, f2, f3, f4⟩) := (hb1.block _ (by omega)).trans (heap_alloc_new w _)
  obtain ⟨k0, k1, k2, k3, k4⟩ := hand_cells hh1
  clear hb1 hlk hc hh1
  go_wp2_with (go_at_call 37; refine (when_any _ _).mono ?_; rintro e w' ⟨rfl, rfl⟩)
  · have he : handE (hands E) ⟨f0, f1, f2, f3, f4⟩ = 1 := by simp_all [handE]
    go_ret
    exact ⟨ret_num he.symm, by rw [he]; decide, HB1.out⟩
  · have he : handE (hands E) ⟨f0, f1, f2, f3, f4⟩ = 3 := by simp_all [handE]
    go_ret
    exact ⟨ret_num he.symm, by rw [he]; decide, HB1.out⟩
  · have hg := HG.out
    have he : handE (hands E) ⟨f0, f1, f2, f3, f4⟩ = 4 := by simp_all [handE]
    go_ret
    exact ⟨ret_num he.symm, by rw [he]; decide, HB1.out⟩
  · have he : handE (hands E) ⟨f0, f1, f2, f3, f4⟩ = 1 := by simp_all [handE]
    go_ret
    exact ⟨ret_num he.symm, by rw [he]; decide, HB1.out⟩

set_option maxRecDepth 100000 in
theorem hand_hit (B : Nat) (ok : Nat → Prop) (p r : Nat) (E A C : List BoxRow) (x : BoxRow) (f0 f1 f2 f3 : ByteArray) (f4 : Int) (w : World) (hC : ChainAt w B ok p E r) (hB : B ≤ w.heap.size) (hfresh : ∀ k, w.heap.size ≤ k → ok k)
    (hS : ∀ s ∈ [f0, f1, f2, f3], s.size ≤ maxLen) (hE : E = A ++ x :: C) (hx : x.1 = f0) (hA : ∀ y ∈ A, y.1 ≠ f0) (hm : mget (E.map fun x => (x.1, x.2.1)) f0 = some x.2.1) (hg : hget (hands E) f0 = x.2.2) (hlen : x.2.2.length ≤ 1000000) :
    Calls Try.prog 22 #[.pointer (some ⟨p, 0, none⟩), handV ⟨f0, f1, f2, f3, f4⟩] w fun e w' =>
      e = .returned (.int .i64 (handE (hands E) ⟨f0, f1, f2, f3, f4⟩)) ∧ ((handE (hands E) ⟨f0, f1, f2, f3, f4⟩ ≠ 0 ∧ Below w.heap.size w w') ∨
        (handE (hands E) ⟨f0, f1, f2, f3, f4⟩ = 0 ∧ Turns ok w w' ∧ ∃ v, ChainAt w' B ok p (A ++ (x.1, v, x.2.2 ++ [⟨f0, f1, f2, f3, f4⟩]) :: C) r)) := by
  have hc := hC.cell
  have HC := Aside0.mk hC
  have HS := Aside0.mk hS
  have hplt := hC.plt
  have hxm : x ∈ E := by rw [hE]; simp
  obtain ⟨hR, hne⟩ := hC.rows x hxm
  obtain ⟨ad, c0, hv, hlc⟩ : ∃ ad c0, x.2.1 = .slice (some ad) x.2.2.length c0 ∧ x.2.2.length ≤ c0 := by
    obtain ⟨A0, c0, hv, hlc, hrd⟩ := Kd.R_reads hR
    obtain ⟨ad, e0, _⟩ := hrd.2.2 (List.length_pos_iff.2 hne)
    exact ⟨ad, c0, by rw [hv, e0], hlc⟩
  obtain ⟨m, hml⟩ : ∃ m, x.2.2.length = m + 1 := ⟨x.2.2.length - 1, by have := List.length_pos_iff.2 hne; omega⟩
  have hlk := fun n => run_lookup_hit (P := Try.prog) (strKey Try.underlying9) Try.underlying63 ((hC.map.alloc (handO ⟨f0, f1, f2, f3, f4⟩)).drewN n) f0 x.2.1 hm true
  simp only [if_true] at hlk
  rw [hv, hml] at hlk
  have HG := Aside0.mk hg
  have HV := Aside0.mk hv
  have HML := Aside0.mk hml
  have HE := Aside0.mk hE
  have HX := Aside0.mk hx
  have HM := Aside0.mk hm
  have HA := Aside0.mk hA
  have HR := Aside0.mk hR
  have HF := Aside0.mk hfresh
  have hml2 : m < 1000000 := by omega
  clear hC hm hA hg hS hxm hR hne hv hE hx hml hlc hlen hfresh
  go_enter Try.func22, Try.ntmps22
  go_wp2_with fail
  go_quiet (fail)
  go_wp2_with fail
  refine (nm4_any f0 f1 f2 f3 _ _ (by simp) HS.out).mono ?_
  rintro e w1 ⟨rfl, hb1⟩
  have HB1 := Aside0.mk (((Below.refl w.heap.size w).alloc (Nat.le_refl _) (handO ⟨f0, f1, f2, f3, f4⟩)).trans ((pw_below_drewN (Below.refl _ _) _).trans (hb1.mono (Nat.le_succ _))))
  have hh1 : w1.heap[w.heap.size]? = some (handO ⟨f0, f1, f2, f3, f4⟩) := (hb1.block _ (by omega)).trans (heap_alloc_new w _)
  obtain ⟨k0, k1, k2, k3, k4⟩ := hand_cells hh1
  have HR1 := Aside0.mk (Kd.R_below HR.out HB1.out)
  have hc1 := (HB1.out.cell (p := ⟨p, 0, none⟩) hplt).trans hc
  obtain ⟨last, hlast⟩ : ∃ last, last = rd_T41 x.2.2 (m : Int) := ⟨_, rfl⟩
  have hlc : w1.cell? (ad.add (m * 5)) = some (.string last.f0) ∧ w1.cell? ⟨(ad.add (m * 5)).block, (ad.add (m * 5)).off + 1, none⟩ = some (.string last.f1) ∧ w1.cell? ⟨(ad.add (m * 5)).block, (ad.add (m * 5)).off + 2, none⟩ = some (.string last.f2) ∧ w1.cell? ⟨(ad.add (m * 5)).block, (ad.add (m * 5)).off + 3, none⟩ = some (.string last.f3) ∧ w1.cell? ⟨(ad.add (m * 5)).block, (ad.add (m * 5)).off + 4, none⟩ = some (.int .i64 last.f4) := by
    obtain ⟨A0, c1, hv1, _, hrd⟩ := Kd.R_reads HR1.out
    rw [HV.out] at hv1
    obtain ⟨ad', e1, hs⟩ := at_T41 hrd (m : Int) (by omega) (by rw [HML.out]; omega)
    rw [Int.toNat_natCast] at hs
    have : A0 = some ad := by injection hv1 with h1; exact h1.symm
    rw [this] at e1
    injection e1 with e1
    rw [← e1, ← hlast] at hs
    exact hs
  obtain ⟨l0, l1, l2, l3, l4⟩ := hlc
  have hz1 : w.heap.size < w1.heap.size := by have := hb1.size; simp at this; omega
  have hz2 : p < w1.heap.size := by omega
  have HL := Aside0.mk hlast
  have hlastq : Aside0 ((hget (hands E) f0).getLast? = some last) := ⟨by
    rw [HG.out, hlast]
    unfold rd_T41
    rw [List.getLast?_eq_getElem?, HML.out, Int.toNat_natCast, List.getD_eq_getElem?_getD, Nat.add_sub_cancel, List.getElem?_eq_getElem (by rw [HML.out]; omega)]
    simp⟩
  clear hb1 hlk hc hlast
  have HH1 := Aside0.mk hh1
  clear hh1
  go_wp2_with (go_at_call 37; refine (when_any _ _).mono ?_; rintro e w' ⟨rfl, rfl⟩)
  · have he : handE (hands E) ⟨f0, f1, f2, f3, f4⟩ = 1 := by simp_all [handE]
    go_ret
    exact ⟨ret_num he.symm, .inl ⟨by rw [he]; decide, HB1.out⟩⟩
  · have he : handE (hands E) ⟨f0, f1, f2, f3, f4⟩ = 3 := by simp_all [handE]
    go_ret
    exact ⟨ret_num he.symm, .inl ⟨by rw [he]; decide, HB1.out⟩⟩
  · have hg2 := hlastq.out
    have he : handE (hands E) ⟨f0, f1, f2, f3, f4⟩ = 8 := by
      rw [handE_of (by assumption) (by assumption) (by assumption) hg2, if_pos]
      have h9 : (!last.f2.toList == f1.toList) = true := by assumption
      simpa using h9
    go_ret
    exact ⟨ret_num he.symm, .inl ⟨by rw [he]; decide, HB1.out.alloc HB1.out.size _⟩⟩
  · have hg2 := hlastq.out
    have he : handE (hands E) ⟨f0, f1, f2, f3, f4⟩ = 6 := by
      have h9 : (!last.f2.toList == f1.toList) = false := by assumption
      rw [handE_of (by assumption) (by assumption) (by assumption) hg2, if_neg (by simpa using h9), if_pos (by assumption)]
    go_ret
    exact ⟨ret_num he.symm, .inl ⟨by rw [he]; decide, HB1.out.alloc HB1.out.size _⟩⟩
  · have hg2 := hlastq.out
    have hln : 4096 ≤ (hget (hands E) f0).length := by rw [HG.out, HML.out]; omega
    have he : handE (hands E) ⟨f0, f1, f2, f3, f4⟩ = 7 := by
      have h9 : (!last.f2.toList == f1.toList) = false := by assumption
      have h8 : last.f4 ≤ f4 := by assumption
      rw [handE_of (by assumption) (by assumption) (by assumption) hg2, if_neg (by simpa using h9), if_neg (show ¬ f4 < last.f4 by omega), if_pos hln]
    go_ret
    exact ⟨ret_num he.symm, .inl ⟨by rw [he]; decide, HB1.out.alloc HB1.out.size _⟩⟩
  · have hbW : Below w1.heap.size w1 (w1.alloc (Obj.cells #[Value.string last.f0, Value.string last.f1, Value.string last.f2, Value.string last.f3, Value.int IntKind.i64 last.f4] 41)) := (Below.refl _ _).alloc (Nat.le_refl _) _
    have hsW : (w1.alloc (Obj.cells #[Value.string last.f0, Value.string last.f1, Value.string last.f2, Value.string last.f3, Value.int IntKind.i64 last.f4] 41)).heap.size = w1.heap.size + 1 := by simp
    generalize (w1.alloc (Obj.cells #[Value.string last.f0, Value.string last.f1, Value.string last.f2, Value.string last.f3, Value.int IntKind.i64 last.f4] 41)) = W at hbW hsW ⊢
    have HSW := Aside0.mk hsW
    have HBW := Aside0.mk hbW
    clear l0 l1 l2 l3 l4 hsW
    replace k0 := (hbW.cell (World.block_lt_of_cell? w1 _ k0)).trans k0
    replace k1 := (hbW.cell (World.block_lt_of_cell? w1 _ k1)).trans k1
    replace k2 := (hbW.cell (World.block_lt_of_cell? w1 _ k2)).trans k2
    replace k3 := (hbW.cell (World.block_lt_of_cell? w1 _ k3)).trans k3
    replace k4 := (hbW.cell (World.block_lt_of_cell? w1 _ k4)).trans k4
    replace hc1 := (hbW.cell (World.block_lt_of_cell? w1 _ hc1)).trans hc1
    have HRW := Aside0.mk (Kd.R_below HR1.out hbW)
    have HBT := Aside0.mk (HB1.out.trans (hbW.mono (by omega)))
    have HMW := Aside0.mk (HC.out.below HBT.out).map
    have HK := Aside0.mk (And.intro k0 (And.intro k1 (And.intro k2 (And.intro k3 k4))))
    clear hbW
    have hBW : B ≤ W.heap.size := by rw [HSW.out]; omega
    have hwW : w.heap.size < W.heap.size := by rw [HSW.out]; omega
    obtain ⟨h0, inner, hown, hreps⟩ := HRW.out
    rw [HV.out, HML.out] at hown h0
    obtain ⟨i0, hi0, hz0, hz1, hz2⟩ := info_parts info41
    have HH0 := Aside0.mk h0
    have HREP := Aside0.mk hreps
    have hty : ∃ cells, W.heap[ad.block]? = some (.cells cells 41 (0, 0)) := own_typed hown ad.block rfl
    have hap : ad.block ≠ p := by
      rintro rfl
      obtain ⟨cells, hty⟩ := hty
      rw [(HC.out.below HBT.out).ptr] at hty
      cases hty
    have har : ad.block ≠ r := by
      rintro rfl
      obtain ⟨cells, hty⟩ := hty
      obtain ⟨es, clock, hb', _⟩ := HMW.out
      rw [hb'] at hty
      cases hty
    have hah : ad.block ≠ w.heap.size := by
      have : ad.block < w.heap.size := by
        obtain ⟨inn, ho⟩ := Kd.R_own HR.out
        rw [HV.out] at ho
        exact own_lt ho ad.block rfl
      omega
    have hpr : p ≠ r := by
      rintro rfl
      obtain ⟨es, clock, hb', _⟩ := HMW.out
      rw [(HC.out.below HBT.out).ptr] at hb'
      cases hb'
    have HPR := Aside0.mk hpr
    have HHR := Aside0.mk (show w.heap.size ≠ r by have := HC.out.map.lt; omega)
    have HAP := Aside0.mk hap
    have HAR := Aside0.mk har
    have HAH := Aside0.mk hah
    have HTY := Aside0.mk hty
    clear h0 hreps hap har hah hty hpr
    go_region_held3 (fun w' => w'.cell? ⟨p, 0, none⟩ = some (.map (some r)) ∧ w'.cell? ⟨w.heap.size, 0, none⟩ = some (.string f0) ∧ w'.cell? ⟨w.heap.size, 1, none⟩ = some (.string f1) ∧ w'.cell? ⟨w.heap.size, 2, none⟩ = some (.string f2) ∧ w'.cell? ⟨w.heap.size, 3, none⟩ = some (.string f3) ∧ w'.cell? ⟨w.heap.size, 4, none⟩ = some (.int .i64 f4))
      (first
        | go_keep
        | (go_split_ands
           refine ⟨?_, ?_, ?_, ?_, ?_, ?_⟩
           · (rw [hgrow.cell_far _ (by simp; omega) (by simpa [Value.ownBlock] using Ne.symm HAP.out)]; assumption)
           all_goals (rw [hgrow.cell_far _ (by simp; omega) (by simpa [Value.ownBlock] using Ne.symm HAH.out)]; assumption))
        | (go_split_ands
           refine ⟨?_, ?_, ?_, ?_, ?_, ?_⟩
           · (rw [World.cell?_of_block (w := w2) (hT3.block _ HPR.out)]; assumption)
           all_goals (rw [World.cell?_of_block (w := w2) (hT3.block _ HHR.out)]; assumption)))
      ((refine step_append_lies _ (by rfl) _ _ _ (by rfl) B 41 i0 _ 5 72 Try.underlying22 hi0 hz0 hz1 hz2 rfl (by omega) (.slice (some ad) (m + 1) c0) (m + 1) inner (by rfl) ((hown.alloc _).drew)
            ⟨W.heap.size, 0, none⟩ 1 1 [.string f0, .string f1, .string f2, .string f3, .int .i64 f4] (by rfl) (by rfl) (World.news_of_block (cs := #[.string f0, .string f1, .string f2, .string f3, .int .i64 f4]) (t := 41) (fr := (0, 0)) (heap_alloc_new W _)) (by simp [Value.oneCell'])
            (by omega) (by unfold maxLen; omega) (by omega) (by simp; omega) (W.heap.size + 1) (by simp) ?_; intro gg cap w2 hown2 hgrow hat hlt;
            obtain ⟨w3, hrun3, hM3, hT3⟩ := run_update (P := Try.prog) (strKey Try.underlying9) Try.underlying63 (((HMW.out.alloc (handO ⟨f0, f1, f2, f3, f4⟩)).drew).keep (hgrow.block r (by have := HMW.out.lt; simp; omega) (by simpa [Value.ownBlock] using Ne.symm HAR.out))) f0 (.slice (some ⟨gg, 0, none⟩) (m + 1 + 1) cap)))
    have HG2 := Aside0.mk hgrow
    have HM3 := Aside0.mk hM3
    have HT3 := Aside0.mk hT3
    have HO2 := Aside0.mk hown2
    clear hgrow hM3 hT3 hown2 hrun3
    go_wp2
    have hg2 := hlastq.out
    have hln : ¬ 4096 ≤ (hget (hands E) f0).length := by rw [HG.out, HML.out]; omega
    have he : handE (hands E) ⟨f0, f1, f2, f3, f4⟩ = 0 := by
      have h9 : (!last.f2.toList == f1.toList) = false := by assumption
      have h8 : last.f4 ≤ f4 := by assumption
      rw [handE_of (by assumption) (by assumption) (by assumption) hg2, if_neg (by simpa using h9), if_neg (show ¬ f4 < last.f4 by omega), if_neg hln]
    go_ret
    have hBd : Below w.heap.size w (W.alloc (handO ⟨f0, f1, f2, f3, f4⟩)).drew := below_drew (HBT.out.alloc HBT.out.size _)
    have hCd := HC.out.below hBd
    rw [HE.out] at hCd
    have hvb : x.2.1.ownBlock = some ad.block := by rw [HV.out]; rfl
    have hokgg : ok gg := by
      rcases hat with hat | hat
      · exact HH0.out gg hat
      · rw [hat]; exact HF.out _ (by omega)
    have hrow : Kd.R k41 41 w2 B (fun k => k = gg) (.slice (some ⟨gg, 0, none⟩) (x.2.2.length + 1) cap) (x.2.2 ++ [⟨f0, f1, f2, f3, f4⟩]) := hand_row (by rw [HML.out]; exact HO2.out) HREP.out
    have hggr : gg ≠ r := by
      rintro rfl
      obtain ⟨inn, ho⟩ := Kd.R_own hrow
      obtain ⟨cells, hty⟩ := own_typed ho gg rfl
      have hM2 := (HMW.out.alloc (handO ⟨f0, f1, f2, f3, f4⟩)).drew.keep (HG2.out.block gg (by have := HMW.out.lt; simp; omega) (by simpa [Value.ownBlock] using Ne.symm HAR.out))
      obtain ⟨es, clock, hb', _⟩ := hM2
      rw [hb'] at hty
      cases hty
    refine ⟨ret_num he.symm, .inr ⟨he, ?_, .slice (some ⟨gg, 0, none⟩) (x.2.2.length + 1) cap, ?_⟩⟩
    · refine ((Turns.of_below hBd).trans (Turns.of_grown HG2.out (fun k hk => HH0.out k hk))).trans (Turns.of_turned HT3.out HC.out.okr.1)
    · refine hCd.grow _ _ (fun y hy => by rw [HX.out]; exact HA.out y hy) (fun k hk hlt hr hne => ?_) ?_ ?_ (by simp) ?_
      · rw [HT3.out.block k hr]
        exact HG2.out.block k hlt (by rw [hvb] at hne; simpa [Value.ownBlock] using hne)
      · rw [← HE.out, HX.out, HML.out]; exact HM3.out
      · refine Kd.R_mono (Kd.R_step hrow (fun k hk _ => HT3.out.block k (by rw [hk]; exact hggr))) (fun k hk => by rw [hk]; exact hokgg)
      · rw [hvb]
        rcases hat with hat | hat
        · left
          have : ad.block = gg := by simpa [Value.ownBlock] using hat
          simp [Value.ownBlock, this]
        · right
          exact ⟨gg, rfl, by rw [hat]; simp⟩
  · have he : handE (hands E) ⟨f0, f1, f2, f3, f4⟩ = 1 := by simp_all [handE]
    go_ret
    exact ⟨ret_num he.symm, .inl ⟨by rw [he]; decide, HB1.out⟩⟩
end Go.Proofs.Ytonnhdffjbpgnaa
