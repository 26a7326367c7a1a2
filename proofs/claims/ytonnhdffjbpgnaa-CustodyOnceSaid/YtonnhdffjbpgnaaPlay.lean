/- Hand-overs done to both, the chain and the row of what was done: they never differ. Conditions: rows of at most a thousand. -/
import Derived.Test.YtonnhdffjbpgnaaPure
set_option linter.unusedVariables false
set_option linter.unusedSimpArgs false
set_option linter.unusedSectionVars false
namespace Go.Proofs.Ytonnhdffjbpgnaa
open Go.RowKit Go.Proofs.YtonnhdffjbpgnaaW.PrintWords Go.Proofs.YtonnhdffjbpgnaaW.PrintLast Go.Proofs.YtonnhdffjbpgnaaW.PrintMore
open Q

theorem hand_tight {w : World} {B : Nat} {ok : Nat → Prop} {v : Value} {l : List S41} (h : Kd.R k41 41 w B ok v l) : Kd.R k41 41 w B (fun k => v.ownBlock = some k) v l := by
  obtain ⟨h0, inner, hown, hreps⟩ := h
  exact ⟨fun k hk => hk, inner, hown, hreps.imp_ fun p c hp => k41_flat hp⟩
theorem ChainAt.moves {w : World} {B : Nat} {ok ok' : Nat → Prop} {p : Nat} {E : List BoxRow} {r : Nat} (h : ChainAt w B ok p E r) (hm : ∀ k, k < w.heap.size → ok k → ok' k) : ChainAt w B ok' p E r where
  ptr := h.ptr
  map := h.map
  rows := fun x hx => ⟨Kd.R_mono (hand_tight (h.rows x hx).1) (fun k hk => hm k (by
    obtain ⟨inner, ho⟩ := Kd.R_own (h.rows x hx).1
    exact own_lt ho k hk) ((h.rows x hx).1.1 k hk)), (h.rows x hx).2⟩
  apart := h.apart
  okp := ⟨hm p h.plt h.okp.1, h.okp.2⟩
  okr := ⟨hm r h.map.lt h.okr.1, h.okr.2⟩

/-- What is done of a row. -/
def kept : List S41 → List S41 → List S41
  | done, [] => done
  | done, h :: t => if refE done h = 0 then kept (done ++ [h]) t else kept done t

theorem doM_same {M : List (ByteArray × List S41)} {h : S41} (h0 : doE M h ≠ 0) : doM M h = M := by
  unfold doE at h0
  unfold doM
  split
  · rename_i e
    rw [if_pos e] at h0
    rw [beginM, if_neg h0]
  · rename_i e
    rw [if_neg e] at h0
    rw [handM, if_neg h0]

abbrev Apart (B : Nat) (v : Value) (k : Nat) : Prop := B ≤ k ∧ some k ≠ v.ownBlock

set_option maxRecDepth 100000 in
set_option maxHeartbeats 4000000 in
theorem play_any (A : Option Addr) (c : Nat) (l : List S41) (w : World) (hr : Kd.C k41 w A l.length l) (hs : Sized l) (hlen : l.length ≤ 500) :
    Calls Try.prog 11 #[.slice A l.length c] w fun e w' => ∃ p r E v, e = .returned (.tuple #[.pointer (some ⟨p, 0, none⟩), v]) ∧
      ChainAt w' w.heap.size (Apart w.heap.size v) p E r ∧ Tells (hands E) (kept [] l) ∧ Small l.length (hands E) ∧ Kd.R k41 41 w' w.heap.size (fun k => w.heap.size ≤ k) v (kept [] l) ∧ Below w.heap.size w w' := by
  have HR := Aside0.mk hr
  have HS := Aside0.mk hs
  obtain ⟨res, hres⟩ : ∃ res, res = kept [] l := ⟨_, rfl⟩
  rw [← hres]
  have HRES := Aside0.mk hres
  have HL := Aside0.mk hlen
  clear hr hs hres hlen
  go_enter Try.func11, Try.ntmps11
  go_wp2_with fail
  refine (new_any w.heap.size (Apart w.heap.size (.slice none 0 0)) w (Nat.le_refl _) (fun k hk => ⟨hk, by simp [Value.ownBlock]⟩)).mono ?_
  rintro e w1 ⟨p, r, rfl, hC, hb⟩
  have HC := Aside0.mk hC
  have HB := Aside0.mk hb
  clear hC hb
  go_wp2_with fail
  go_loopg [5, 16] (l.length + 1) (fun kq v5 v16 wr => ∃ (i : Nat) (E : List BoxRow) (done : List S41), v16 = .int .i64 i ∧ i ≤ l.length ∧ l.length < i + kq ∧ done.length ≤ i ∧ Aside0 (ChainAt wr w.heap.size (Apart w.heap.size v5) p E r) ∧ Aside0 (Small i (hands E)) ∧ Aside0 (Tells (hands E) done) ∧ Aside0 (Kd.R k41 41 wr w.heap.size (fun k => w.heap.size ≤ k) v5 done) ∧ Aside0 (kept done (l.drop i) = res) ∧ Aside0 (Below w.heap.size w wr))
  case atStart => exact ⟨0, [], [], rfl, Nat.zero_le _, by omega, Nat.le_refl _, HC, ⟨⟨Nat.le_refl _, by simp [hands]⟩⟩, ⟨Tells.nil⟩, ⟨Kd.R_nil _ _ _ _ _⟩, ⟨by rw [HRES.out]; rfl⟩, HB⟩
  case round =>
    clear HC HB
    obtain ⟨i, E, done, rfl, hi, hk, hdl, HC, HSM, HT, HO, HP, HB⟩ := hrel
    by_cases hlt : i < l.length
    · obtain ⟨ad, rfl, hx0, hx1, hx2, hx3, hx4⟩ := at_T41 HR.out i (by omega) (by omega)
      replace hx0 := (HB.out.cell (World.block_lt_of_cell? w _ hx0)).trans hx0
      replace hx1 := (HB.out.cell (World.block_lt_of_cell? w _ hx1)).trans hx1
      replace hx2 := (HB.out.cell (World.block_lt_of_cell? w _ hx2)).trans hx2
      replace hx3 := (HB.out.cell (World.block_lt_of_cell? w _ hx3)).trans hx3
      replace hx4 := (HB.out.cell (World.block_lt_of_cell? w _ hx4)).trans hx4
      obtain ⟨h, hh⟩ : ∃ h, h = rd_T41 l (i : Int) := ⟨_, rfl⟩
      rw [← hh, Int.toNat_natCast] at hx0 hx1 hx2 hx3 hx4
      have HSH := Aside0.mk (HS.out h (by rw [hh]; exact rd_mem hlt))
      have HKP : Aside0 (kept done (l.drop i) = if refE done h = 0 then kept (done ++ [h]) (l.drop (i + 1)) else kept done (l.drop (i + 1))) := ⟨by rw [drop_rd hlt, kept, hh]⟩
      have HDL : Aside0 (done.length ≤ 500) := ⟨by have := HL.out; omega⟩
      have HSM2 : Aside0 (Small 1000000 (hands E)) := ⟨⟨by have := HSM.out.1; have := HL.out; omega, fun x hx => by have := HSM.out.2 x hx; have := HL.out; omega⟩⟩
      have HEL : Aside0 (E.length ≤ 1000000) := ⟨by have := HSM2.out.1; simpa [hands] using this⟩
      have HRE := Aside0.mk (refE_eq HT.out (by have := HDL.out; omega) h)
      obtain ⟨A1, c1, rfl, hc1, hrd⟩ := Kd.R_reads HO.out
      have HRD := Aside0.mk hrd
      have HC1 := Aside0.mk hc1
      have HSZ := Aside0.mk HB.out.size
      clear hh hrd hc1
      by_cases hf : h.f1.toList = []
      · have hfe : h.f1.toList.isEmpty = true := by simp [hf]
        have hre : refE done h = beginR done h.f0 h.f2 h.f3 h.f4 := by simp [refE, hf]
        have hre2 : doE (hands E) h = beginE (hands E) h.f0 h.f2 h.f3 h.f4 := by simp [doE, hf]
        have hre3 : doM (hands E) h = beginM (hands E) h.f0 h.f2 h.f3 h.f4 := by simp [doM, hf]
        have HR1 := Aside0.mk hre
        have HR2 := Aside0.mk hre2
        have HR3 := Aside0.mk hre3
        clear hf hre hre2 hre3
        go_wp2_with fail
        have HW := Aside0.mk (below_alloc (Below.refl wr.heap.size wr) (handO h))
        have hh1 := heap_alloc_new wr (handO h)
        have HWS : Aside0 ((wr.alloc (handO h)).heap.size = wr.heap.size + 1) := ⟨by simp⟩
        generalize (wr.alloc (.cells #[.string h.f0, .string h.f1, .string h.f2, .string h.f3, .int .i64 h.f4] 41)) = W at HW hh1 HWS ⊢
        obtain ⟨k0, k1, k2, k3, k4⟩ := hand_cells hh1
        have HK := Aside0.mk hh1
        have HCW : Aside0 (ChainAt W w.heap.size (fun k => Apart w.heap.size (.slice A1 done.length c1) k ∧ k ≠ wr.heap.size) p E r) := ⟨(HC.out.moves fun k hk ho => ⟨ho, by omega⟩).below HW.out⟩
        have HFR : Aside0 (∀ k, W.heap.size ≤ k → Apart w.heap.size (.slice A1 done.length c1) k ∧ k ≠ wr.heap.size) := ⟨fun k hk => ⟨⟨by have := HSZ.out; have := HWS.out; omega, fun e => by
          obtain ⟨inner, ho⟩ := Kd.R_own HO.out
          have := own_lt ho k e.symm
          have := HWS.out
          omega⟩, by have := HWS.out; omega⟩⟩
        have HRW := Aside0.mk (Kd.C_below HRD.out HW.out)
        clear hx0 hx1 hx2 hx3 hx4 hh1
        go_region_held3 (fun w' => w'.cell? ⟨wr.heap.size, 0, none⟩ = some (.string h.f0) ∧ w'.cell? ⟨wr.heap.size, 1, none⟩ = some (.string h.f1) ∧ w'.cell? ⟨wr.heap.size, 2, none⟩ = some (.string h.f2) ∧ w'.cell? ⟨wr.heap.size, 3, none⟩ = some (.string h.f3) ∧ w'.cell? ⟨wr.heap.size, 4, none⟩ = some (.int .i64 h.f4))
          (first
            | go_keep
            | (go_split_ands
               refine ⟨?_, ?_, ?_, ?_, ?_⟩
               all_goals (rw [hbR.cell (by have := HWS.out; simp; omega)]; assumption))
            | (go_split_ands
               refine ⟨?_, ?_, ?_, ?_, ?_⟩
               all_goals (rw [World.cell?_of_block (hTR.block wr.heap.size hszR (by simp))]; assumption)))
          (first
            | (go_at_call 29; refine (rbegins_any A1 c1 done h.f0 h.f2 h.f3 h.f4 _ (Kd.C_drew HRW.out) HC1.out (by have := HDL.out; omega) (HSH.out _ (by simp)) (HSH.out _ (by simp)) (HSH.out _ (by simp))).mono ?_; rintro e w2 ⟨rfl, hbR⟩; have hszR : wr.heap.size < w2.heap.size := (by have h9 := hbR.size; have h8 := HWS.out; simp only [World.size_drew] at h9; omega))
            | (go_at_call 21; refine (begin_any w.heap.size _ p r E h.f0 h.f2 h.f3 h.f4 _ ((HCW.out.below (below_drew (Below.refl _ _))).below hbR) (by have := hbR.size; have := HSZ.out; have := HWS.out; simp at *; omega) (fun k hk => HFR.out k (by have := hbR.size; simp at *; omega)) (HSH.out _ (by simp)) (HSH.out _ (by simp)) (HSH.out _ (by simp)) HEL.out).mono ?_; rintro e w3 ⟨E', rfl, hCR, hhR, hTR⟩))
        rename_i hHeld
        have he : beginE (hands E) h.f0 h.f2 h.f3 h.f4 = beginR done h.f0 h.f2 h.f3 h.f4 := by rw [← HR2.out, ← HR1.out]; exact HRE.out
        rw [he]
        have HB3 : Aside0 (Below w.heap.size w w3) := ⟨(((HB.out.trans (HW.out.mono HSZ.out)).trans ((below_drew (Below.refl _ _)).trans (hbR.mono (by simp; have := HWS.out; have := HSZ.out; omega)))).trans (hTR.below (by have := hszR; have := HSZ.out; omega) (fun k hk hc => by have := hc.1.1; omega)))⟩
        have HO3 : Aside0 (Kd.R k41 41 w3 w.heap.size (fun k => w.heap.size ≤ k) (.slice A1 done.length c1) done) := ⟨Kd.R_mono (Kd.R_step (hand_tight HO.out) (fun k hk hlt => by
          have h1 := HW.out.block k hlt
          have h2 := hbR.block k (by simp; have := HWS.out; omega)
          have h3 := hTR.block k (by omega) (fun hc => hc.1.2 hk.symm)
          rw [h3, h2]
          exact h1)) (fun k hk => HO.out.1 k hk)⟩
        have HC3 : Aside0 (ChainAt w3 w.heap.size (fun k => Apart w.heap.size (.slice A1 done.length c1) k ∧ k < w3.heap.size) p E' r) := ⟨hCR.moves fun k hk hc => ⟨hc.1, hk⟩⟩
        have HH3 : Aside0 (hands E' = doM (hands E) h) := ⟨by rw [HR3.out]; exact hhR⟩
        have HS3 : Aside0 (Small (i + 1) (hands E')) := ⟨by rw [HH3.out]; exact small_do HSM.out h⟩
        obtain ⟨k0, k1, k2, k3, k4⟩ := hHeld
        clear hbR hszR hCR hhR hTR
        by_cases hz : refE done h = 0
        · have hnx : kept (done ++ [h]) (l.drop (i + 1)) = res := by rw [← HP.out, HKP.out, if_pos hz]
          have HNX := Aside0.mk hnx
          have HT3 : Aside0 (Tells (hands E') (done ++ [h])) := ⟨by rw [HH3.out]; exact HT.out.step h (by rw [HRE.out]; exact hz)⟩
          have hzn : (beginR done h.f0 h.f2 h.f3 h.f4 == 0) = true := by rw [← HR1.out]; simpa using hz
          clear hnx hz
          go_wp2_with ((with_reducible refine gate_builtin (b := .append) (xs := #[.tmp 55, .tmp 57]) rfl ?_); at_builtin; refine Kd.R_append k41 (w0 := w) w.heap.size rfl (.tmp 55) (.tmp 57) 22 41 (.agg #[(.string ⟨#[]⟩), (.string ⟨#[]⟩), (.string ⟨#[]⟩), (.string ⟨#[]⟩), (.int .i64 0)]) 72 rfl Try.underlying22 info41 rfl (by decide) (by omega) (.slice A1 done.length c1) done h [.string h.f0, .string h.f1, .string h.f2, .string h.f3, .int .i64 h.f4] (fun k => w.heap.size ≤ k) (fun _ => False) rfl rfl ?aP (fun _ hk => hk.elim) ?aF ?aO ?aB ?aS ?aL ?_; (case aP => exact k41_mkM _ _ _ h); (case aB => exact HB3.out); (case aF => exact (fun k hk => Nat.le_trans HB3.out.size hk)); (case aO => exact HO3.out); (case aS => exact HB3.out.size); (case aL => have := HDL.out; omega); intro v9 w9 ho9 hb9 hg9 hat9; have HO9 := Aside0.mk ho9; have HB9 := Aside0.mk hb9; have HG9 := Aside0.mk hg9; have HA9 := Aside0.mk hat9; clear ho9 hb9 hg9 hat9)
          go_roundg (gk - 1)
          case measure => omega
          case rel =>
            refine ⟨i + 1, E', done ++ [h], by rw [wrap_one (by omega) (by have := HL.out; omega)]; rfl, by omega, by omega, by simp; omega, ⟨?_⟩, HS3, HT3, HO9, HNX, HB9⟩
            refine (HC3.out.step fun k hk hlt => HG9.out.block k hlt hk.1.2).moves fun k hk hc => ⟨hc.1.1, ?_⟩
            rcases HA9.out with e | ⟨b, e, hle⟩
            · rw [e]; exact hc.1.2
            · rw [e]; intro e2; have := hc.2; injection e2 with e2; omega
        · have hnx : kept done (l.drop (i + 1)) = res := by rw [← HP.out, HKP.out, if_neg hz]
          have HNX := Aside0.mk hnx
          have HT3 : Aside0 (Tells (hands E') done) := ⟨by rw [HH3.out, doM_same (by rw [HRE.out]; exact hz)]; exact HT.out⟩
          have hzn : (beginR done h.f0 h.f2 h.f3 h.f4 == 0) = false := by rw [← HR1.out]; simpa using hz
          clear hnx hz
          go_wp2
          go_roundg (gk - 1)
          case measure => omega
          case rel => exact ⟨i + 1, E', done, by rw [wrap_one (by omega) (by have := HL.out; omega)]; rfl, by omega, by omega, by omega, ⟨HC3.out.moves fun k hk hc => hc.1⟩, HS3, HT3, HO3, HNX, HB3⟩
      · have hfe : h.f1.toList.isEmpty = false := by simpa using hf
        have hre : refE done h = handR (ownP done h.f0) h := by simp [refE, hf]
        have hre2 : doE (hands E) h = handE (hands E) h := by simp [doE, hf]
        have hre3 : doM (hands E) h = handM (hands E) h := by simp [doM, hf]
        have HR1 := Aside0.mk hre
        have HR2 := Aside0.mk hre2
        have HR3 := Aside0.mk hre3
        clear hf hre hre2 hre3
        go_wp2_with fail
        have HW := Aside0.mk (below_alloc (Below.refl wr.heap.size wr) (handO h))
        have hh1 := heap_alloc_new wr (handO h)
        have HWS : Aside0 ((wr.alloc (handO h)).heap.size = wr.heap.size + 1) := ⟨by simp⟩
        generalize (wr.alloc (.cells #[.string h.f0, .string h.f1, .string h.f2, .string h.f3, .int .i64 h.f4] 41)) = W at HW hh1 HWS ⊢
        obtain ⟨k0, k1, k2, k3, k4⟩ := hand_cells hh1
        have HK := Aside0.mk hh1
        have HCW : Aside0 (ChainAt W w.heap.size (fun k => Apart w.heap.size (.slice A1 done.length c1) k ∧ k ≠ wr.heap.size) p E r) := ⟨(HC.out.moves fun k hk ho => ⟨ho, by omega⟩).below HW.out⟩
        have HFR : Aside0 (∀ k, W.heap.size ≤ k → Apart w.heap.size (.slice A1 done.length c1) k ∧ k ≠ wr.heap.size) := ⟨fun k hk => ⟨⟨by have := HSZ.out; have := HWS.out; omega, fun e => by
          obtain ⟨inner, ho⟩ := Kd.R_own HO.out
          have := own_lt ho k e.symm
          have := HWS.out
          omega⟩, by have := HWS.out; omega⟩⟩
        have HRW := Aside0.mk (Kd.C_below HRD.out HW.out)
        clear hx0 hx1 hx2 hx3 hx4 hh1
        go_region_held3 (fun w' => w'.cell? ⟨wr.heap.size, 0, none⟩ = some (.string h.f0) ∧ w'.cell? ⟨wr.heap.size, 1, none⟩ = some (.string h.f1) ∧ w'.cell? ⟨wr.heap.size, 2, none⟩ = some (.string h.f2) ∧ w'.cell? ⟨wr.heap.size, 3, none⟩ = some (.string h.f3) ∧ w'.cell? ⟨wr.heap.size, 4, none⟩ = some (.int .i64 h.f4))
          (first
            | go_keep
            | (go_split_ands
               refine ⟨?_, ?_, ?_, ?_, ?_⟩
               all_goals (rw [hbR.cell (by have := HWS.out; simp; omega)]; assumption))
            | (go_split_ands
               refine ⟨?_, ?_, ?_, ?_, ?_⟩
               all_goals (rw [World.cell?_of_block (hTR.block wr.heap.size hszR (by simp))]; assumption)))
          (first
            | (go_at_call 30; refine (rhands_any A1 c1 done h _ (Kd.C_drew HRW.out) HC1.out (by have := HDL.out; omega) HSH.out).mono ?_; rintro e w2 ⟨rfl, hbR⟩; have hszR : wr.heap.size < w2.heap.size := (by have h9 := hbR.size; have h8 := HWS.out; simp only [World.size_drew] at h9; omega))
            | (go_at_call 22; refine (hand_any w.heap.size _ p r E h _ ((HCW.out.below (below_drew (Below.refl _ _))).below hbR) (by have := hbR.size; have := HSZ.out; have := HWS.out; simp at *; omega) (fun k hk => HFR.out k (by have := hbR.size; simp at *; omega)) HSH.out HSM2.out).mono ?_; rintro e w3 ⟨E', rfl, hCR, hhR, hTR⟩))
        rename_i hHeld
        have he : handE (hands E) h = handR (ownP done h.f0) h := by rw [← HR2.out, ← HR1.out]; exact HRE.out
        rw [he]
        have HB3 : Aside0 (Below w.heap.size w w3) := ⟨(((HB.out.trans (HW.out.mono HSZ.out)).trans ((below_drew (Below.refl _ _)).trans (hbR.mono (by simp; have := HWS.out; have := HSZ.out; omega)))).trans (hTR.below (by have := hszR; have := HSZ.out; omega) (fun k hk hc => by have := hc.1.1; omega)))⟩
        have HO3 : Aside0 (Kd.R k41 41 w3 w.heap.size (fun k => w.heap.size ≤ k) (.slice A1 done.length c1) done) := ⟨Kd.R_mono (Kd.R_step (hand_tight HO.out) (fun k hk hlt => by
          have h1 := HW.out.block k hlt
          have h2 := hbR.block k (by simp; have := HWS.out; omega)
          have h3 := hTR.block k (by omega) (fun hc => hc.1.2 hk.symm)
          rw [h3, h2]
          exact h1)) (fun k hk => HO.out.1 k hk)⟩
        have HC3 : Aside0 (ChainAt w3 w.heap.size (fun k => Apart w.heap.size (.slice A1 done.length c1) k ∧ k < w3.heap.size) p E' r) := ⟨hCR.moves fun k hk hc => ⟨hc.1, hk⟩⟩
        have HH3 : Aside0 (hands E' = doM (hands E) h) := ⟨by rw [HR3.out]; exact hhR⟩
        have HS3 : Aside0 (Small (i + 1) (hands E')) := ⟨by rw [HH3.out]; exact small_do HSM.out h⟩
        obtain ⟨k0, k1, k2, k3, k4⟩ := hHeld
        clear hbR hszR hCR hhR hTR
        by_cases hz : refE done h = 0
        · have hnx : kept (done ++ [h]) (l.drop (i + 1)) = res := by rw [← HP.out, HKP.out, if_pos hz]
          have HNX := Aside0.mk hnx
          have HT3 : Aside0 (Tells (hands E') (done ++ [h])) := ⟨by rw [HH3.out]; exact HT.out.step h (by rw [HRE.out]; exact hz)⟩
          have hzn : (handR (ownP done h.f0) h == 0) = true := by rw [← HR1.out]; simpa using hz
          clear hnx hz
          go_wp2_with ((with_reducible refine gate_builtin (b := .append) (xs := #[.tmp 55, .tmp 57]) rfl ?_); at_builtin; refine Kd.R_append k41 (w0 := w) w.heap.size rfl (.tmp 55) (.tmp 57) 22 41 (.agg #[(.string ⟨#[]⟩), (.string ⟨#[]⟩), (.string ⟨#[]⟩), (.string ⟨#[]⟩), (.int .i64 0)]) 72 rfl Try.underlying22 info41 rfl (by decide) (by omega) (.slice A1 done.length c1) done h [.string h.f0, .string h.f1, .string h.f2, .string h.f3, .int .i64 h.f4] (fun k => w.heap.size ≤ k) (fun _ => False) rfl rfl ?aP (fun _ hk => hk.elim) ?aF ?aO ?aB ?aS ?aL ?_; (case aP => exact k41_mkM _ _ _ h); (case aB => exact HB3.out); (case aF => exact (fun k hk => Nat.le_trans HB3.out.size hk)); (case aO => exact HO3.out); (case aS => exact HB3.out.size); (case aL => have := HDL.out; omega); intro v9 w9 ho9 hb9 hg9 hat9; have HO9 := Aside0.mk ho9; have HB9 := Aside0.mk hb9; have HG9 := Aside0.mk hg9; have HA9 := Aside0.mk hat9; clear ho9 hb9 hg9 hat9)
          go_roundg (gk - 1)
          case measure => omega
          case rel =>
            refine ⟨i + 1, E', done ++ [h], by rw [wrap_one (by omega) (by have := HL.out; omega)]; rfl, by omega, by omega, by simp; omega, ⟨?_⟩, HS3, HT3, HO9, HNX, HB9⟩
            refine (HC3.out.step fun k hk hlt => HG9.out.block k hlt hk.1.2).moves fun k hk hc => ⟨hc.1.1, ?_⟩
            rcases HA9.out with e | ⟨b, e, hle⟩
            · rw [e]; exact hc.1.2
            · rw [e]; intro e2; have := hc.2; injection e2 with e2; omega
        · have hnx : kept done (l.drop (i + 1)) = res := by rw [← HP.out, HKP.out, if_neg hz]
          have HNX := Aside0.mk hnx
          have HT3 : Aside0 (Tells (hands E') done) := ⟨by rw [HH3.out, doM_same (by rw [HRE.out]; exact hz)]; exact HT.out⟩
          have hzn : (handR (ownP done h.f0) h == 0) = false := by rw [← HR1.out]; simpa using hz
          clear hnx hz
          go_wp2
          go_roundg (gk - 1)
          case measure => omega
          case rel => exact ⟨i + 1, E', done, by rw [wrap_one (by omega) (by have := HL.out; omega)]; rfl, by omega, by omega, by omega, ⟨HC3.out.moves fun k hk hc => hc.1⟩, HS3, HT3, HO3, HNX, HB3⟩
    · have hnx : res = done := by
        have : i = l.length := by omega
        rw [← HP.out, this, List.drop_length]
        rfl
      have HNX := Aside0.mk hnx
      clear hnx
      go_wp2
      go_ret2
      have : i = l.length := by omega
      rw [HNX.out]
      exact ⟨p, r, E, _, rfl, HC.out, HT.out, by rw [← this]; exact HSM.out, HO.out, HB.out⟩
end Go.Proofs.Ytonnhdffjbpgnaa
