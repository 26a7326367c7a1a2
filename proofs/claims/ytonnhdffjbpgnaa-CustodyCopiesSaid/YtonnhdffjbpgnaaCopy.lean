/- A chain's copy: its own, of the same boxes. Conditions: rows of at most a million. -/
import Derived.Test.YtonnhdffjbpgnaaHist
set_option linter.unusedVariables false
set_option linter.unusedSimpArgs false
set_option linter.unusedSectionVars false
namespace Go.Proofs.Ytonnhdffjbpgnaa
open Go.RowKit Go.Proofs.YtonnhdffjbpgnaaW.PrintWords Go.Proofs.YtonnhdffjbpgnaaW.PrintLast Go.Proofs.YtonnhdffjbpgnaaW.PrintMore
open Q

abbrev rowKV (x : BoxRow) : ByteArray × Value := (x.1, x.2.1)

theorem rest_next {Erest : List BoxRow} {rest rest' : List (ByteArray × Value)} {q : ByteArray × Value} (h : rest.Perm (Erest.map rowKV)) (hq : rest.Perm (q :: rest')) :
    ∃ A x C, Erest = A ++ x :: C ∧ rowKV x = q ∧ rest'.Perm ((A ++ C).map rowKV) := by
  have hm : q ∈ Erest.map rowKV := (h.mem_iff).1 ((hq.mem_iff).2 (by simp))
  obtain ⟨x, hx, he⟩ := List.mem_map.1 hm
  obtain ⟨A, C, hE⟩ := List.append_of_mem hx
  refine ⟨A, x, C, hE, he, ?_⟩
  have h1 : (q :: rest').Perm (q :: (A ++ C).map rowKV) := by
    refine hq.symm.trans (h.trans ?_)
    rw [hE, List.map_append, List.map_cons, he]
    rw [List.map_append]
    exact List.perm_middle
  exact h1.cons_inv

set_option maxRecDepth 100000 in
theorem copy_any (B : Nat) (ok : Nat → Prop) (p r : Nat) (E : List BoxRow) (w : World) (hC : ChainAt w B ok p E r) (hsm : Small 1000000 (hands E)) :
    Calls Try.prog 19 #[.pointer (some ⟨p, 0, none⟩)] w fun e w' => ∃ p' r' E', e = .returned (.pointer (some ⟨p', 0, none⟩)) ∧
      ChainAt w' w.heap.size (fun k => w.heap.size ≤ k) p' E' r' ∧ (hands E').Perm (hands E) ∧ Below w.heap.size w w' := by
  have HC := Aside0.mk hC
  have HSM := Aside0.mk hsm
  clear hC hsm
  go_enter Try.func19, Try.ntmps19
  go_wp2_with fail
  refine (new_any w.heap.size (fun k => w.heap.size ≤ k) w (Nat.le_refl _) (fun k hk => hk)).mono ?_
  rintro e w1 ⟨p2, r2, rfl, hC2, hb1⟩
  have HC2 := Aside0.mk hC2
  have HB1 := Aside0.mk hb1
  have hc1 := (HC.out.below hb1).cell
  obtain ⟨w2, hrun, hRg, o, ho⟩ := run_range_at (P := Try.prog) Try.underlying63 (HC.out.below hb1).map
  have HRG := Aside0.mk hRg
  have HB2 : Aside0 (Below w1.heap.size w1 w2) := ⟨by rw [ho]; exact below_alloc (Below.refl _ _) _⟩
  have HW2 : Aside0 (w2.heap.size = w1.heap.size + 1) := ⟨by rw [ho]; simp⟩
  clear hC2 hb1 hRg ho
  go_wp2_with fail
  have HI : Aside0 (ChainAt w2 w.heap.size (fun k => w.heap.size ≤ k ∧ k ≠ w1.heap.size) p2 [] r2) := ⟨(HC2.out.moves fun k hk h => ⟨h, by omega⟩).below HB2.out⟩
  have HBW : Aside0 (Below w.heap.size w w2) := ⟨HB1.out.trans (HB2.out.mono HB1.out.size)⟩
  have HSZ := Aside0.mk HB1.out.size
  clear HC2 HB1 HB2 HW2 hc1 hrun
  go_loopg [] (E.length + 1) (fun kq wr => ∃ (E' Er : List BoxRow) (rest : List (ByteArray × Value)), Er.length < kq ∧ Aside0 (ChainAt wr w.heap.size (fun k => w.heap.size ≤ k ∧ k ≠ w1.heap.size) p2 E' r2) ∧ Aside0 (Ranging Value.string wr r w1.heap.size (E.map rowKV) rest) ∧ Aside0 (rest.Perm (Er.map rowKV)) ∧ Aside0 ((hands E' ++ hands Er).Perm (hands E)) ∧ Aside0 (∀ x ∈ Er, x ∈ E) ∧ Aside0 (Below w.heap.size w wr))
  case atStart => exact ⟨[], E, E.map rowKV, by omega, HI, HRG, ⟨List.Perm.refl _⟩, ⟨by simp [hands]⟩, ⟨fun x hx => hx⟩, HBW⟩
  case round =>
    clear HI HRG HBW
    obtain ⟨E', Er, rest, hlen, HI, HRG, HPM, HPH, HIN, HB⟩ := hrel
    rcases run_next_of (P := Try.prog) HRG.out 0 with ⟨h0, hrun⟩ | ⟨q, rest', w3, hpm, hrun, hRg3, hT3, hent⟩
    · have HE : Aside0 (Er = []) := ⟨by
        have := HPM.out.length_eq
        rw [h0] at this
        simp at this
        exact List.eq_nil_of_length_eq_zero (by omega)⟩
      clear h0
      go_wp2
      go_ret
      refine ⟨p2, r2, E', rfl, HI.out.moves fun k hk h => h.1, ?_, HB.out⟩
      have := HPH.out
      rw [HE.out] at this
      simpa [hands] using this
    · obtain ⟨Ea, x, Ec, hEr, hq, hpm2⟩ := rest_next HPM.out hpm
      subst hq
      have hxE : x ∈ E := HIN.out x (by rw [hEr]; simp)
      have hit := HRG.out.lt
      have HT3 := Aside0.mk hT3
      have HI3 : Aside0 (ChainAt w3 w.heap.size (fun k => w.heap.size ≤ k ∧ k ≠ w1.heap.size) p2 E' r2) := ⟨HI.out.step fun k hk hlt => hT3.block k hk.2⟩
      have HB3 : Aside0 (Below w.heap.size w w3) := ⟨HB.out.trans (hT3.below HSZ.out)⟩
      have HRG3 := Aside0.mk hRg3
      have hCx := HC.out.rows x hxE
      obtain ⟨A, c, hv, hlc, hrd⟩ := Kd.R_reads hCx.1
      have HRD := Aside0.mk (Kd.C_below hrd HB3.out)
      have hxl : x.2.2.length ≤ 1000000 := HSM.out.2 (x.1, x.2.2) (List.mem_map.2 ⟨x, hxE, rfl⟩)
      have HXL := Aside0.mk hxl
      have HNE := Aside0.mk hCx.2
      have HER := Aside0.mk hEr
      have HPM2 := Aside0.mk hpm2
      have HXE := Aside0.mk hxE
      have hcell := HI3.out.cell
      have hplt := HI3.out.plt
      obtain ⟨xk, xv, xl⟩ := x
      simp only at hv hent hrun
      subst hv
      have hpr : p2 ≠ r2 := by
        rintro rfl
        obtain ⟨es, clock, hb', _⟩ := HI3.out.map
        rw [HI3.out.ptr] at hb'
        cases hb'
      have HPR := Aside0.mk hpr
      clear hpm hRg3 hT3 hxE hCx hrd hxl hEr hpm2 hlc hpr
      go_wp2_with fail
      go_region_held3 (fun w' => w'.cell? ⟨p2, 0, none⟩ = some (.map (some r2)))
        (first
          | go_keep
          | (rw [hb4.cell (by simp; omega)]; assumption)
          | (rw [World.cell?_of_block (w := w4) (hT5.block _ HPR.out)]; assumption))
        ((go_at_call 32; refine (clone_any A c xl _ (Kd.C_drew HRD.out) HXL.out).mono ?_; rintro e w4 ⟨v4, rfl, hR4, hb4⟩;
          obtain ⟨w5, hrun5, hM5, hT5⟩ := run_update (P := Try.prog) (strKey Try.underlying9) Try.underlying63 ((HI3.out.below (below_drew (Below.refl _ _))).below hb4).map xk v4))
      go_wp2
      go_roundg (gk - 1)
      case measure => have h9 := congrArg List.length HER.out; simp at h9; omega
      case rel =>
        have hlt2 := HI3.out.map.lt
        have hr2 := HI3.out.okr
        have hrw := HC.out.map.lt
        have hszs : w3.heap.size ≤ w4.heap.size := by have := hb4.size; simpa using this
        have hb34 : ∀ k, k < w3.heap.size → w4.heap[k]? = w3.heap[k]? := fun k hk => hb4.block k (by simpa using hk)
        have hkeep : ∀ k, k < w3.heap.size → k ≠ r2 → w5.heap[k]? = w3.heap[k]? := fun k hk hne => (hT5.block k hne).trans (hb34 k hk)
        have hbase : ∀ k, v4.ownBlock = some k → w3.heap.size ≤ k := fun k hk => by have := Kd.R_base hR4 k hk; simpa using this
        have hR5 : Kd.R k41 41 w5 w.heap.size (fun k => w.heap.size ≤ k ∧ k ≠ w1.heap.size) v4 xl := by
          refine Kd.R_mono (Kd.R_step (Kd.R_lower (hand_tight hR4) (by have := HB3.out.size; simpa using this)) (fun k hk _ => hT5.block k (by have := hbase k hk; omega))) (fun k hk => ?_)
          have h1 := hbase k hk
          have h2 := HB3.out.size
          have h3 := HT3.out.size
          exact ⟨by omega, by omega⟩
        have hn : ∀ y ∈ E', y.1 ≠ xk := by
          intro y hy e
          have hnd := (HPH.out.map (·.1)).nodup_iff.2 HC.out.keys
          rw [List.map_append] at hnd
          refine (List.nodup_append.1 hnd).2.2 y.1 (List.mem_map.2 ⟨(y.1, y.2.2), List.mem_map.2 ⟨y, hy, rfl⟩, rfl⟩) xk ?_ e
          rw [HER.out]
          simp [hands]
        have hvs : v4.ownBlock ≠ none := by
          obtain ⟨A4, c4, e4, _, hrd4⟩ := Kd.R_reads hR4
          obtain ⟨ad, e5, _⟩ := hrd4.2.2 (List.length_pos_iff.2 HNE.out)
          rw [e4, e5]
          simp [Value.ownBlock]
        refine ⟨E' ++ [(xk, v4, xl)], Ea ++ Ec, rest', ?_, ⟨HI3.out.more xk v4 xl hn (fun k _ hk hne => hkeep k hk hne) hM5 hR5 HNE.out hbase hvs⟩, ⟨HRG3.out.keep (hkeep r (by have := HB3.out.size; omega) (by omega)) (hkeep _ (by have := HT3.out.size; omega) (fun e => hr2.1.2 e.symm))⟩, HPM2, ⟨?_⟩, ⟨fun y hy => HIN.out y ?_⟩, ⟨?_⟩⟩
        · have h9 := congrArg List.length HER.out; simp at h9 ⊢; omega
        · have h1 := HPH.out
          rw [HER.out] at h1
          simp only [hands, List.map_append, List.map_cons, List.map_nil, List.append_assoc, List.cons_append, List.nil_append] at h1 ⊢
          refine List.Perm.trans ?_ h1
          exact List.Perm.append_left _ List.perm_middle.symm
        · rw [HER.out]
          rcases List.mem_append.1 hy with h | h
          · simp [h]
          · simp [h]
        · exact (HB3.out.trans ((below_drew (Below.refl _ _)).trans (hb4.mono (by have := HB3.out.size; simpa using this)))).trans (hT5.below hr2.2)
end Go.Proofs.Ytonnhdffjbpgnaa
