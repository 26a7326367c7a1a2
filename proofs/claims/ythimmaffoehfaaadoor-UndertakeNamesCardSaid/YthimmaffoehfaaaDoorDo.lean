/- An event that happens to a life: which fault, and how it stands behind it. Conditions: rows of at most eight hundred. -/
import Derived.Test.YthimmaffoehfaaaDoorThen
set_option linter.unusedVariables false
set_option linter.unusedSimpArgs false
set_option linter.unusedSectionVars false
namespace Go.Proofs.YthimmaffoehfaaaDoor
open Go.RowKit Go.Proofs.YthimmaffoehfaaaDoorW.PrintWords Go.Proofs.YthimmaffoehfaaaDoorW.PrintLast Go.Proofs.YthimmaffoehfaaaDoorW.PrintMore
open Q

/-- What an event came to. -/
def DSet (w : World) (B g : Nat) (t : Tm) (hv : Value) (r : Int) (s' : LS) (e : Ending) (w' : World) : Prop :=
  ∃ pv' hv', e = .returned (.int .i64 r) ∧ LifeAt w' B g t s' pv' hv' ∧ Turns (fun k => k = g ∨ hv.ownBlock = some k) w w' ∧ (hv'.ownBlock = hv.ownBlock ∨ ∃ b, hv'.ownBlock = some b ∧ w.heap.size ≤ b)
theorem DSet.still {w w' : World} {B g : Nat} {t : Tm} {s : LS} {pv hv : Value} {r : Int} (h : LifeAt w B g t s pv hv) (hb : Below w.heap.size w w') : DSet w B g t hv r s (.returned (.int .i64 r)) w' :=
  ⟨pv, hv, rfl, h.below hb, Turns.of_below hb, .inl rfl⟩
theorem ev_cells {w : World} {g : Nat} {ev : S41} (h : w.heap[g]? = some (evO ev)) : w.cell? ⟨g, 0, none⟩ = some (.int .i64 ev.f0) ∧ w.cell? ⟨g, 1, none⟩ = some (.string ev.f1) ∧ w.cell? ⟨g, 2, none⟩ = some (.int .i64 ev.f2) ∧ w.cell? ⟨g, 3, none⟩ = some (.int .i64 ev.f3) := by
  refine ⟨?_, ?_, ?_, ?_⟩ <;> simp [World.cell?, h]

theorem right_kind {ev : S41} (h : rightB ev = true) : 0 ≤ ev.f0 ∧ ev.f0 ≤ 7 := by
  unfold rightB at h
  simp only [Bool.and_eq_true, decide_eq_true_eq] at h
  exact h.1.1.1.1
theorem then_bad {t : Tm} {s : LS} {ev : S41} {k : Int} (h : thenR t s ev k ≠ 0) : thenS t s ev k = s := by
  unfold thenR at h
  unfold thenS
  by_cases h2 : k = 2
  · subst h2
    rw [if_pos rfl] at h
    rw [if_neg (by omega), if_neg (by omega), if_pos rfl, if_neg h]
  · rw [if_neg h2] at h
    by_cases h7 : k = 7
    · subst h7
      rw [if_pos rfl] at h
      by_cases h3 : ev.f2 ≤ t.exp
      · rw [if_neg (by omega), if_neg (by omega), if_neg (by omega), if_neg (by omega), if_neg (by omega), if_neg (by omega), if_neg (by omega), if_pos h3]
      · rw [if_neg h3] at h
        exact absurd rfl h
    · rw [if_neg h7] at h
      exact absurd rfl h
theorem then_hist (t : Tm) (s : LS) (ev : S41) (k : Int) : (thenS t s ev k).hist = s.hist := by
  unfold thenS
  repeat' split
  all_goals rfl
theorem life_hist {w : World} {B g : Nat} {t : Tm} {s : LS} {pv hv : Value} (hblk : w.heap[g]? = some (.cells (lifeCells t s pv hv) 51)) (gB : B ≤ g) (hp : Kd.R k47 47 w B (fun _ => True) pv s.paid) (v : Value) (xs : List S41) (hR : Kd.R k41 41 w B (fun _ => True) v xs) :
    LifeAt (w.setCell ⟨g, 24, none⟩ v) B g t { s with hist := xs } pv v where
  blk := heap_setCell_same w g 24 _ _ v hblk
  gB := gB
  hist := hist_keep hR fun k hk => Below.heap_setCell _ _ _ _ (by
    rintro rfl
    obtain ⟨inner, ho⟩ := Kd.R_own hR
    obtain ⟨cells, hc⟩ := own_typed ho _ hk
    rw [hblk] at hc
    cases hc)
  paid := paid_keep hp fun k hk => Below.heap_setCell _ _ _ _ (by
    rintro rfl
    obtain ⟨inner, ho⟩ := Kd.R_own hp
    obtain ⟨cells, hc⟩ := own_typed ho _ hk
    rw [hblk] at hc
    cases hc)
theorem ev_in {w0 w : World} {k : Nat} {d : S41} (h0 : w.cell? ⟨k, 0, none⟩ = some (.int .i64 d.f0)) (h1 : w.cell? ⟨k, 1, none⟩ = some (.string d.f1)) (h2 : w.cell? ⟨k, 2, none⟩ = some (.int .i64 d.f2)) (h3 : w.cell? ⟨k, 3, none⟩ = some (.int .i64 d.f3)) : ReadsRow (k41.K w0) k41.sz w (some ⟨k, 0, none⟩) 1 [d] := by
  refine ⟨rfl, by decide, fun _ => ⟨_, rfl, fun j p hj => ?_⟩⟩
  obtain rfl : j = 0 := by
    have := (List.getElem?_eq_some_iff.1 hj).1
    simp at this
    omega
  obtain rfl : d = p := by simpa using hj
  refine ⟨_, rfl, k41_mk w0 d, fun i u hu => ?_⟩
  have e : (⟨k, 0, none⟩ : Addr).add (0 * k41.sz + i) = ⟨k, i, none⟩ := by rw [add_plain]; simp
  rw [e]
  match i, hu with
  | 0, hu => simp at hu; rw [← hu]; exact h0
  | 1, hu => simp at hu; rw [← hu]; exact h1
  | 2, hu => simp at hu; rw [← hu]; exact h2
  | 3, hu => simp at hu; rw [← hu]; exact h3
theorem grow_keep {w5 W1 w16 : World} {own : Option Nat} (hb : Below w5.heap.size w5 W1) (hg : W1.grownBy w16 own) : ∀ k, k < w5.heap.size → some k ≠ own → w16.heap[k]? = w5.heap[k]? := fun k hk hne => (hg.block k (Nat.lt_of_lt_of_le hk hb.size) hne).trans (hb.block k hk)
theorem grow_turns {w5 W1 w16 : World} {own : Option Nat} (hb : Below w5.heap.size w5 W1) (hg : W1.grownBy w16 own) (g : Nat) : Turns (fun k => k = g ∨ own = some k) w5 w16 := (Turns.of_below hb).trans (Turns.of_grown hg fun k h => .inr h)
theorem grow_at {w5 W1 : World} {v : Value} {own : Option Nat} (hb : Below w5.heap.size w5 W1) (hat : v.ownBlock = own ∨ ∃ b, v.ownBlock = some b ∧ W1.heap.size ≤ b) : v.ownBlock = own ∨ ∃ b, v.ownBlock = some b ∧ w5.heap.size ≤ b := by
  rcases hat with h | ⟨b, h, hb2⟩
  · exact .inl h
  · exact .inr ⟨b, h, Nat.le_trans hb.size hb2⟩
theorem hist_cases (s : LS) (ev : S41) : (s.hist = [] ∧ lateB s ev = false) ∨ (∃ (m : Nat) (last : S41), s.hist.length = m + 1 ∧ rd_T41 s.hist (m : Int) = last ∧ ¬ ev.f2 < last.f2 ∧ lateB s ev = false) ∨ ∃ (m : Nat) (last : S41), s.hist.length = m + 1 ∧ rd_T41 s.hist (m : Int) = last ∧ ev.f2 < last.f2 ∧ lateB s ev = true := by
  by_cases hh : s.hist = []
  · exact .inl ⟨hh, by unfold lateB; rw [hh]; rfl⟩
  · have hpos := List.length_pos_iff.2 hh
    obtain ⟨m, hm⟩ : ∃ m, s.hist.length = m + 1 := ⟨s.hist.length - 1, by omega⟩
    have hl : s.hist.getLast? = some (rd_T41 s.hist (m : Int)) := by
      unfold rd_T41
      rw [List.getLast?_eq_getElem?, hm, Int.toNat_natCast, List.getD_eq_getElem?_getD, Nat.add_sub_cancel, List.getElem?_eq_getElem (by omega)]
      simp
    have hlate : lateB s ev = decide (ev.f2 < (rd_T41 s.hist (m : Int)).f2) := by unfold lateB; rw [hl]
    by_cases hlt : ev.f2 < (rd_T41 s.hist (m : Int)).f2
    · exact .inr (.inr ⟨m, _, hm, rfl, hlt, by rw [hlate]; simp [hlt]⟩)
    · exact .inr (.inl ⟨m, _, hm, rfl, hlt, by rw [hlate]; simp [hlt]⟩)

set_option maxRecDepth 100000 in
set_option maxHeartbeats 4000000 in
theorem do_any {w : World} {B g : Nat} {t : Tm} {s : LS} {pv hv : Value} (h : LifeAt w B g t s pv hv) (hl : s.paid.length ≤ 800) (hl2 : s.hist.length ≤ 800) (ev : S41) (hs : ev.f1.size ≤ 140737488351232) :
    Calls Tryd.prog 9 #[.pointer (some ⟨g, 0, none⟩), evV ev] w (DSet w B g t hv (doR t s ev) (doS t s ev)) := by
  have hb0 := (Below.refl w.heap.size w).alloc (Nat.le_refl _) (evO ev)
  have hg := h.lt
  have HB0 := Aside0.mk hb0
  have H := Aside0.mk h
  have HL := Aside0.mk hl
  have HL2 := Aside0.mk hl2
  have HRI := Aside0.mk (fun W => right_any ev W hs)
  obtain ⟨b, hb⟩ : ∃ b, b = rightB ev := ⟨_, rfl⟩
  rw [← hb] at HRI
  have HRB := Aside0.mk hb
  obtain ⟨r, hr⟩ : ∃ r, r = doR t s ev := ⟨_, rfl⟩
  obtain ⟨s', hs'⟩ : ∃ s', s' = doS t s ev := ⟨_, rfl⟩
  rw [← hr, ← hs']
  have HR := Aside0.mk hr
  have HS := Aside0.mk hs'
  obtain ⟨c0, c1, c2, c3⟩ := ev_cells (w := w.alloc (evO ev)) (heap_alloc_new w (evO ev))
  clear h hl hl2 hb0 hb hs hr hs'
  go_enter Tryd.func9, Tryd.ntmps9
  go_wp2_with fail
  refine (HRI.out _).mono ?_
  rintro e w1 ⟨rfl, hb1⟩
  have HB1 : Aside0 (Below w.heap.size w w1) := ⟨HB0.out.trans (hb1.mono (by simp))⟩
  have hbx : w1.heap[w.heap.size]? = some (evO ev) := (hb1.block _ (by simp)).trans (heap_alloc_new w (evO ev))
  obtain ⟨j0, j1, j2, j3⟩ := ev_cells hbx
  have HBX := Aside0.mk hbx
  clear hb1 hbx c0 c1 c2 c3
  cases b with
  | false =>
    go_wp2
    go_ret
    have h1 : doR t s ev = 1 := by unfold doR; rw [if_pos HRB.out.symm]
    have h2 : doS t s ev = s := by unfold doS; rw [h1]; rfl
    rw [HS.out, h2, HR.out, h1]
    exact DSet.still H.out HB1.out
  | true =>
    have hl1 := H.out.below HB1.out
    have c24 : w1.cell? ⟨g, 24, none⟩ = some hv := hl1.cell 24
    obtain ⟨A, c, hhv, hlc, hrd⟩ := Kd.R_reads hl1.hist
    rw [hhv] at c24
    have hg1 : g < w1.heap.size := hl1.lt
    have HL1 := Aside0.mk hl1
    have HRD := Aside0.mk hrd
    have HLC := Aside0.mk hlc
    clear hl1 hhv hlc hrd
    rcases hist_cases s ev with ⟨hh, hlate⟩ | ⟨m, last, hm, hlast, hlt, hlate⟩ | ⟨m, last, hm, hlast, hlt, hlate⟩
    case' true.inr.inr =>
      have hmb : m < 800 := by have := HL2.out; omega
      obtain ⟨ad, hA, q0, q1, q2, q3⟩ := at_T41 HRD.out (m : Int) (by omega) (by omega)
      rw [Int.toNat_natCast, hlast] at q2
      rw [hm, hA] at c24
      have hmc : m + 1 ≤ c := by have := HLC.out; omega
      have hm0 : (0 : Int) ≤ (m : Int) := by omega
      have hwm : IntKind.i64.wrap (m : Int) = (m : Int) := IntWalk.i64_in _ (by omega)
      have HLT := Aside0.mk hlate
      clear hm hlast hlate q0 q1 q3 hA
      go_wp2_with fail
      go_quiet (fail)
      go_wp2_with fail
      go_ret
      have h1 : doR t s ev = 6 := by unfold doR; rw [if_neg (by rw [← HRB.out]; simp), if_pos HLT.out]
      have h2 : doS t s ev = s := by unfold doS; rw [h1]; rfl
      rw [HS.out, h2, HR.out, h1]
      exact DSet.still H.out (pw_below_drewN HB1.out _)
    case' true.inr.inl =>
      have hmb : m < 800 := by have := HL2.out; omega
      obtain ⟨ad, hA, q0, q1, q2, q3⟩ := at_T41 HRD.out (m : Int) (by omega) (by omega)
      rw [Int.toNat_natCast, hlast] at q2
      rw [hm, hA] at c24
      have hmc : m + 1 ≤ c := by have := HLC.out; omega
      have hm0 : (0 : Int) ≤ (m : Int) := by omega
      have hwm : IntKind.i64.wrap (m : Int) = (m : Int) := IntWalk.i64_in _ (by omega)
      have HLT := Aside0.mk hlate
      clear hm hlast hlate q0 q1 q3 hA
      go_wp2_with fail
      go_quiet (fail)
      go_wp2_with fail
      clear q2 hmc hm0 hwm hmb hlt
    case' true.inl =>
      rw [hh] at c24
      have HLT := Aside0.mk hlate
      have HHH := Aside0.mk hh
      clear hh hlate
      go_wp2_with fail
      go_quiet (fail)
      go_wp2_with fail
    all_goals
      clear c24
      obtain ⟨h0, h7⟩ := right_kind HRB.out.symm
      have HBD : Aside0 (Below w.heap.size w (w1.drewN nq)) := ⟨pw_below_drewN HB1.out _⟩
      obtain ⟨b2, hb2⟩ : ∃ b2, b2 = standsB t s ev.f0 := ⟨_, rfl⟩
      have HST := stands_any (H.out.below HBD.out) ev.f0 h0 h7
      rw [← hb2] at HST
      have HSB := Aside0.mk hb2
      clear hb2
      refine HST.mono ?_
      clear HST
      rintro e w2 ⟨rfl, hb2⟩
      have HB2 : Aside0 (Below w.heap.size w w2) := ⟨HBD.out.trans (hb2.mono HBD.out.size)⟩
      have hbx2 : w2.heap[w.heap.size]? = some (evO ev) := (hb2.block _ (blk_lt HBX.out)).trans HBX.out
      have HBX2 := Aside0.mk hbx2
      obtain ⟨i0, i1, i2, i3⟩ := ev_cells hbx2
      have hw2 : w.heap.size < w2.heap.size := blk_lt hbx2
      clear hb2 hbx2 j0 j1 j2 j3
      cases b2 with
      | false =>
        go_wp2
        go_ret
        have h1 : doR t s ev = 9 := by unfold doR; rw [if_neg (by rw [← HRB.out]; simp), if_neg (by rw [HLT.out]; simp), if_pos HSB.out.symm]
        have h2 : doS t s ev = s := by unfold doS; rw [h1]; rfl
        rw [HS.out, h2, HR.out, h1]
        exact DSet.still H.out HB2.out
      | true =>
        have hix := fun n => kIndex n h0 h7
        have hf1 := fun n w => kField1 (inV n ev.f0) (.func (.func (byF ev.f0)) #[] #[]) (.func (.func (thF ev.f0)) #[] (thC n ev.f0)) w
        have hcf := fun args W => by_enter h0 h7 args W
        have HBY := Aside0.mk (fun (W : World) (hb : Below w.heap.size w W) => by_any (H.out.below hb) ev.f0 h0 h7)
        go_wp2_with fail
        go_region_held3 (fun w' => ∀ b o, b < w2.heap.size → w'.cell? ⟨b, o, none⟩ = w2.cell? ⟨b, o, none⟩) (first | assumption | (refine (below_keep (W := w2) (N := w2.heap.size) ?_).1; (repeat (first | (with_reducible exact Below.refl _ _) | (with_reducible refine below_al ?_ _) | (with_reducible refine below_drew ?_)))))
          (first
            | (go_at_call 14; refine (kinds_any _).mono ?_; rintro e w3 ⟨rfl, hb3, ht3⟩; have hB3 : Below w2.heap.size w2 w3 := (below_drew (Below.refl w2.heap.size w2)).trans hb3; have hkeep := (below_keep hB3).1; have HB3 := Aside0.mk (HB2.out.trans (hB3.mono HB2.out.size)); have HBW3 := Aside0.mk hB3; clear hb3 ht3 hB3)
            | ((refine (HBY.out _ HB3.out).mono ?_); rintro e w4 ⟨rfl, rfl⟩))
        go_wp2_with fail
        · have hby : (!ev.f1.toList == (byB t s ev.f0).toList) = true := by assumption
          rw [beq_text] at hby
          have hne : ¬ ev.f1 = byB t s ev.f0 := by simpa using hby
          go_ret
          have h1 : doR t s ev = 8 := by unfold doR; rw [if_neg (by rw [← HRB.out]; simp), if_neg (by rw [HLT.out]; simp), if_neg (by rw [← HSB.out]; simp), if_neg hne]
          have h2 : doS t s ev = s := by unfold doS; rw [h1]; rfl
          rw [HS.out, h2, HR.out, h1]
          exact DSet.still H.out HB3.out
        · have hby : (!ev.f1.toList == (byB t s ev.f0).toList) = false := by assumption
          rw [beq_text] at hby
          have heq : ev.f1 = byB t s ev.f0 := by simpa using hby
          have HEQ := Aside0.mk heq
          have HRR : Aside0 (r = thenR t s ev ev.f0) := ⟨by rw [HR.out]; unfold doR; rw [if_neg (by rw [← HRB.out]; simp), if_neg (by rw [HLT.out]; simp), if_neg (by rw [← HSB.out]; simp), if_pos heq]⟩
          have HDR : Aside0 (doR t s ev = r) := ⟨HR.out.symm⟩
          clear hby heq
          have hbx3 : w3.heap[w.heap.size]? = some (evO ev) := (HBW3.out.block _ hw2).trans HBX2.out
          have HBX3 := Aside0.mk hbx3
          obtain ⟨m0, m1, m2, m3⟩ := ev_cells hbx3
          have hw3 : w.heap.size < w3.heap.size := blk_lt hbx3
          clear hbx3 hf1 hcf
          have hf2 := fun n w => kField2 (inV n ev.f0) (.func (.func (byF ev.f0)) #[] #[]) (.func (.func (thF ev.f0)) #[] (thC n ev.f0)) w
          have hcf := fun args W => th_enter h0 h7 args W
          have HTH := Aside0.mk (fun (W : World) (n : Nat) (hb : Below w.heap.size w W) (hk : KTab W n) => then_any (H.out.below hb) HL.out hk ev ev.f0 h0 h7)
          rw [← HRR.out] at HTH
          go_region_held3 (fun w' => ∀ o, w'.cell? ⟨w.heap.size, o, none⟩ = w3.cell? ⟨w.heap.size, o, none⟩) (first | assumption | (exact fun _ => rfl))
            (first
              | (go_at_call 14; refine (kinds_any _).mono ?_; rintro e w4 ⟨rfl, hb4, ht4⟩; have hB4 : Below w3.heap.size w3 w4 := (below_drew (Below.refl w3.heap.size w3)).trans hb4; have hkeep : ∀ o, w4.cell? ⟨w.heap.size, o, none⟩ = w3.cell? ⟨w.heap.size, o, none⟩ := (fun o => (below_keep hB4).1 _ o hw3); have HB4 := Aside0.mk (HB3.out.trans (hB4.mono HB3.out.size)); have HT4 := Aside0.mk ht4; have HBX4 := Aside0.mk ((hB4.block _ hw3).trans HBX3.out); clear hb4 ht4 hB4)
              | ((refine (HTH.out _ _ HB4.out HT4.out).mono ?_); rintro e w5 ⟨pv5, rfl, hL5, hT5⟩; have hx5 := (hT5.block _ (blk_lt HBX4.out) (by omega)).trans HBX4.out; have hkeep : ∀ o, w5.cell? ⟨w.heap.size, o, none⟩ = w3.cell? ⟨w.heap.size, o, none⟩ := (fun o => by rw [World.cell?_of_block (hx5.trans HBX3.out.symm)]); have HL5 := Aside0.mk hL5; have HT5 := Aside0.mk ((Turns.of_below HB4.out).trans hT5); have HBX5 := Aside0.mk hx5; clear hL5 hT5 hx5))
          by_cases hr0 : r = 0
          · have HR0 := Aside0.mk hr0
            have h5 := HL5.out
            have c24 : w5.cell? ⟨g, 24, none⟩ = some hv := h5.cell 24
            have f24 := h5.free 24
            have HSS : Aside0 (s' = { thenS t s ev ev.f0 with hist := s.hist ++ [ev] }) := ⟨by rw [HS.out]; unfold doS; rw [if_pos (by rw [HDR.out]; exact hr0)]⟩
            have hist5 : Aside0 (Kd.R k41 41 w5 B (fun _ => True) hv s.hist) := ⟨by have := h5.hist; rw [then_hist] at this; exact this⟩
            obtain ⟨A5, q5, hhv, hlc5, hrd5⟩ := Kd.R_reads hist5.out
            rw [hhv] at c24
            have HHV := Aside0.mk hhv
            have hist6 : Aside0 (Kd.R k41 41 w5 B (fun _ => True) (.slice A5 s.hist.length q5) s.hist) := ⟨by rw [← hhv]; exact hist5.out⟩
            have hBw : B ≤ w5.heap.size := Nat.le_of_lt (Nat.lt_of_le_of_lt h5.gB h5.lt)
            have hg5 := h5.lt
            obtain ⟨n0, n1, n2, n3⟩ := ev_cells HBX5.out
            have hw5 : w.heap.size < w5.heap.size := blk_lt HBX5.out
            clear h5 hlc5 hrd5 hhv hf2 hcf
            go_wp2_with fail
            go_region_law ((first
              | ((refine Kd.R_append_rows_step k41 (Rr := k41.K w5) (w0 := w5) B ?hw (.tmp 66) (.tmp 68) 49 41 (.agg #[(.int .i64 0), (.string ⟨#[]⟩), (.int .i64 0), (.int .i64 0)]) 40 ?ho Tryd.underlying49 info41 rfl (by decide) (by omega) (.slice A5 s.hist.length q5) s.hist [ev] _ 1 _ (fun _ => True) (fun _ => False) ?hs (by rfl) (Kd.R_below hist6.out ?HO) ?HR ?hKM (fun _ hk => hk.elim) (fun _ _ => trivial) (Below.mono (B := w5.heap.size) ?HB hBw) (Nat.le_trans hBw (Below.size (B := w5.heap.size) (w := w5) ?HB2)) ?hl1 ?_); (case hs => rfl); (case hw => rfl); (case ho => rfl); (case HO => (repeat (first | (with_reducible exact Below.refl _ _) | (with_reducible refine below_al ?_ _) | (with_reducible refine below_drew ?_)))); (case HB => (repeat (first | (with_reducible exact Below.refl _ _) | (with_reducible refine below_al ?_ _) | (with_reducible refine below_drew ?_)))); (case HB2 => (repeat (first | (with_reducible exact Below.refl _ _) | (with_reducible refine below_al ?_ _) | (with_reducible refine below_drew ?_)))); (case hKM => (intro x cs hx; rw [k41_open hx]; exact k41_mkM _ _ _ x)); (case hl1 => (have h9 := HL2.out; omega)); (case HR => (refine ev_in ?_ ?_ ?_ ?_ <;> go_simp)); intro v16 w16 ho16 hb16 hg16 hat16; have hkp := grow_keep (w5 := w5) (by (repeat (first | (with_reducible exact Below.refl _ _) | (with_reducible refine below_al ?_ _) | (with_reducible refine below_drew ?_)))) hg16; have htu := grow_turns (w5 := w5) (by (repeat (first | (with_reducible exact Below.refl _ _) | (with_reducible refine below_al ?_ _) | (with_reducible refine below_drew ?_)))) hg16 g; have hat := grow_at (w5 := w5) (by (repeat (first | (with_reducible exact Below.refl _ _) | (with_reducible refine below_al ?_ _) | (with_reducible refine below_drew ?_)))) hat16; (rw [← HHV.out] at hkp htu hat); have HKP := Aside0.mk hkp; have HTU := Aside0.mk htu; have HAT := Aside0.mk hat; have HO16 := Aside0.mk ho16; have hgb := (hkp g hg5 (fun e => (HL5.out.hlt g e.symm).2.2 rfl)).trans HL5.out.blk; have HGB := Aside0.mk hgb; have e24 : w16.cell? ⟨g, 24, none⟩ = some hv := (by simp [World.cell?, hgb]); have e24f := frozen_of_row w16 g 24 _ _ hgb; (obtain ⟨A16, c16, hv16, hc16, hrd16⟩ := Kd.R_reads ho16); (subst hv16); clear ho16 hb16 hg16 hat16 hkp htu hat hgb hrd16 hc16)))
            all_goals
              have hlen : (s.hist ++ [ev]).length = s.hist.length + 1 := by simp
              have hL := life_hist HGB.out HL5.out.gB (paid_keep HL5.out.paid (fun k hk => HKP.out k (HL5.out.plt k hk).1 (fun e => HL5.out.hp k e.symm k hk rfl))) _ _ HO16.out
              have hA := HAT.out
              rw [hlen] at hL hA
              have HLF := Aside0.mk hL
              have HAF := Aside0.mk hA
              clear hL hA hlen
              go_wp2
              go_ret
              refine ⟨pv5, .slice A16 (s.hist.length + 1) c16, by rw [HR0.out]; rfl, ?_, ?_, ?_⟩
              · rw [HSS.out]
                exact HLF.out
              · exact ((HT5.out.mono (fun k _ h => .inl h)).trans HTU.out).set ⟨g, 24, none⟩ _ (.inl rfl)
              · rcases HAF.out with h | ⟨b, h, hb⟩
                · exact .inl h
                · exact .inr ⟨b, h, Nat.le_trans HT5.out.size hb⟩
          · have HSS : Aside0 (s' = s) := ⟨by rw [HS.out]; unfold doS; rw [if_neg (by rw [HDR.out]; exact hr0)]⟩
            have HTS : Aside0 (thenS t s ev ev.f0 = s) := ⟨then_bad (by rw [← HRR.out]; exact hr0)⟩
            go_wp2
            go_ret
            have hL := HL5.out
            rw [HTS.out] at hL
            rw [HSS.out]
            exact ⟨pv5, hv, rfl, hL, HT5.out.mono (fun k _ hk => .inl hk), .inl rfl⟩
end Go.Proofs.YthimmaffoehfaaaDoor
