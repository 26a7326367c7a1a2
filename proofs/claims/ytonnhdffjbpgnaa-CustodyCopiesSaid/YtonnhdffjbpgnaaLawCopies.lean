/- The law CustodyCopies holds at every two rows of hand-overs and box. Conditions: texts as a machine can hold. -/
import Derived.Test.YtonnhdffjbpgnaaLong
import Derived.Test.YtonnhdffjbpgnaaAwake
import Derived.Test.YtonnhdffjbpgnaaMore
import Derived.Test.YtonnhdffjbpgnaaCopy
import Derived.Test.YtonnhdffjbpgnaaBoxes
import Derived.Test.YtonnhdffjbpgnaaRows
import Derived.WalkKit
import Derived.ChangeOld
import Derived.Below
set_option linter.unusedVariables false
set_option linter.unusedSimpArgs false
set_option linter.unusedSectionVars false
namespace Go.Proofs.Ytonnhdffjbpgnaa
open Go.RowKit Go.Proofs.YtonnhdffjbpgnaaW.PrintWords Go.Proofs.YtonnhdffjbpgnaaW.PrintLast Go.Proofs.YtonnhdffjbpgnaaW.PrintMore
open Q

theorem Tells.does {M : List (ByteArray × List S41)} {done : List S41} (h : Tells M done) (hl : done.length ≤ 1000) (x : S41) : Tells (doM M x) (kept done [x]) := by
  rw [kept, kept, kept]
  by_cases h0 : refE done x = 0
  · rw [if_pos h0]
    exact h.step x (by rw [refE_eq h hl]; exact h0)
  · rw [if_neg h0, doM_same (by rw [refE_eq h hl]; exact h0)]
    exact h

/-- The blocks of the chain that goes on: what it had, and what is new. -/
abbrev OldNew (B S2 S5 : Nat) (k : Nat) : Prop := (B ≤ k ∧ k < S2) ∨ S5 ≤ k

set_option maxRecDepth 100000 in
set_option maxHeartbeats 4000000 in
theorem copies_walk (A : Option Addr) (c : Nat) (l : List S41) (Am : Option Addr) (cm : Nat) (m : List S41) (box : ByteArray) (w : World) (hr : Kd.C k41 w A l.length l) (hc : l.length ≤ c) (hs : Sized4 l) (hrm : Kd.C k41 w Am m.length m) (hcm : m.length ≤ cm) (hsm : Sized4 m) (hb : box.size ≤ 140737488351232) :
    Calls Try.prog 6 #[.slice A l.length c, .slice Am m.length cm, .string box] w fun e w' => e = .returned (.bool true) ∧ Below w.heap.size w w' := by
  have HR := Aside0.mk hr
  have HC := Aside0.mk hc
  have HS := Aside0.mk hs
  have HRM := Aside0.mk hrm
  have HCM := Aside0.mk hcm
  have HSM := Aside0.mk hsm
  clear hr hc hs hrm hcm hsm hb
  go_enter Try.func6, Try.ntmps6
  go_wp2_with fail
  refine (long_any A c l w HR.out HC.out HS.out).mono ?_
  rintro e w1 ⟨rfl, hb1⟩
  have HB := Aside0.mk hb1
  clear hb1
  cases hlg : longB l with
  | true =>
    go_wp2_with fail
    refine (awake_any w1).mono ?_
    rintro e w2 ⟨rfl, hb2⟩
    have HB2 := Aside0.mk (HB.out.trans (hb2.mono HB.out.size))
    clear hb2
    go_wp2
    go_ret
    exact ⟨rfl, HB2.out⟩
  | false =>
    have HL := Aside0.mk (short_len hlg)
    have HZ := Aside0.mk (short_sized2 hlg)
    have HZ2 := Aside0.mk (short_sized hlg)
    clear hlg
    go_wp2_with fail
    refine (long_any Am cm m w1 (Kd.C_below HRM.out HB.out) HCM.out HSM.out).mono ?_
    rintro e w2 ⟨rfl, hb2⟩
    have HB2 := Aside0.mk (HB.out.trans (hb2.mono HB.out.size))
    clear hb2 HB
    cases hlm : longB m with
    | true =>
      go_wp2_with fail
      refine (awake_any w2).mono ?_
      rintro e w3 ⟨rfl, hb3⟩
      have HB3 := Aside0.mk (HB2.out.trans (hb3.mono HB2.out.size))
      clear hb3
      go_wp2
      go_ret
      exact ⟨rfl, HB3.out⟩
    | false =>
      have HLM := Aside0.mk (short_len hlm)
      have HZM := Aside0.mk (short_sized2 hlm)
      clear hlm
      by_cases hbx : (60 : Int) < box.size
      · go_wp2_with fail
        refine (awake_any w2).mono ?_
        rintro e w3 ⟨rfl, hb3⟩
        have HB3 := Aside0.mk (HB2.out.trans (hb3.mono HB2.out.size))
        clear hb3
        go_wp2
        go_ret
        exact ⟨rfl, HB3.out⟩
      · go_wp2_with fail
        refine (play_any A c l w2 (Kd.C_below HR.out HB2.out) HZ.out (by have := HL.out; omega)).mono ?_
        rintro e w3 ⟨p, r, E, v1, rfl, hC, hT, hSm, hR1, hb3⟩
        have HB3 := Aside0.mk (HB2.out.trans (hb3.mono HB2.out.size))
        have HC3 := Aside0.mk hC
        have HT3 := Aside0.mk hT
        have HSM3 : Aside0 (Small 60 (hands E)) := ⟨⟨by have := hSm.1; have := HL.out; omega, fun x hx => by have := hSm.2 x hx; have := HL.out; omega⟩⟩
        have HSM1 : Aside0 (Small 1000000 (hands E)) := ⟨⟨by have := hSm.1; have := HL.out; omega, fun x hx => by have := hSm.2 x hx; have := HL.out; omega⟩⟩
        have HKS : Aside0 (∀ x ∈ E, x.1.size ≤ maxLen) := ⟨fun x hx => Nat.le_trans (tells_keys hT (n := 200) (fun y hy => by
          rcases kept_mem l [] y hy with h | h
          · simp at h
          · exact HZ2.out y h _ (by simp)) (x.1, x.2.2) (List.mem_map.2 ⟨x, hx, rfl⟩)) (by unfold maxLen; omega)⟩
        have HEL : Aside0 (E.length ≤ 60) := ⟨by have := HSM3.out.1; simpa [hands] using this⟩
        have HND := Aside0.mk hC.keys
        clear hC hT hSm hR1 hb3
        go_wp2_with fail
        refine (copy_any _ _ p r E w3 HC3.out HSM1.out).mono ?_
        rintro e w4 ⟨p2, r2, E2, rfl, hC4, hP4, hb4⟩
        have HB4 := Aside0.mk (HB3.out.trans (hb4.mono HB3.out.size))
        have HX4 := Aside0.mk hb4
        have HD4 := Aside0.mk hC4
        have HP4 := Aside0.mk hP4
        have HC4 := Aside0.mk (HC3.out.below hb4)
        clear hC4 hP4 hb4
        go_wp2_with fail
        refine (history_any _ _ p r E box w4 HC4.out HSM1.out).mono ?_
        rintro e w5 ⟨v5, rfl, hR5, hb5⟩
        have HB5 := Aside0.mk (HB4.out.trans (hb5.mono HB4.out.size))
        have HX5 := Aside0.mk (HX4.out.trans (hb5.mono HX4.out.size))
        have HD5 := Aside0.mk (HD4.out.below hb5)
        have HC5 := Aside0.mk (HC4.out.below hb5)
        have HW5 := Aside0.mk (Kd.R_lower hR5 HX4.out.size)
        clear hR5 hb5 HC4 HD4
        go_wp2_with fail
        refine (boxes_any _ _ p r E w5 HC5.out (by have := HEL.out; omega) HKS.out).mono ?_
        rintro e w6 ⟨v6, rfl, hR6, hb6⟩
        have HB6 := Aside0.mk (HB5.out.trans (hb6.mono HB5.out.size))
        have HX6 := Aside0.mk (HX5.out.trans (hb6.mono HX5.out.size))
        have HD6 := Aside0.mk (HD5.out.below hb6)
        have HW6 := Aside0.mk (hand_step HW5.out (fun k _ hlt => hb6.block k hlt))
        have HA6 := Aside0.mk (Kd.R_lower hR6 HX5.out.size)
        have HC6 : Aside0 (ChainAt w6 w2.heap.size (OldNew w2.heap.size w3.heap.size w6.heap.size) p E r) := ⟨(HC3.out.moves fun k hk h => Or.inl ⟨h.1, hk⟩).below HX6.out⟩
        obtain ⟨was, hwas⟩ : ∃ was, was = hget (hands E) box := ⟨_, rfl⟩
        rw [← hwas] at HW6
        have HWAS := Aside0.mk hwas
        have HWL : Aside0 (was.length ≤ 60) := ⟨by rw [hwas]; exact hget_len HSM3.out⟩
        have HS36 := Aside0.mk HX6.out.size
        have HS23 : Aside0 (w2.heap.size ≤ w3.heap.size) := ⟨by have := HC3.out.okr.1.1; have := HC3.out.map.lt; omega⟩
        have HSW2 := Aside0.mk HB2.out.size
        clear hR6 hb6 HW5 HD5 HC5 HB4 HB5 HX5 HB3 hwas HC3
        obtain ⟨A5, c5, rfl, hc5, hrd5⟩ := Kd.R_reads HW6.out
        obtain ⟨A6, c6, rfl, hc6, hrd6⟩ := Kd.R_reads HA6.out
        have HC5 := Aside0.mk hc5
        have HC6' := Aside0.mk hc6
        clear hc5 hrd5 hc6 hrd6
        go_wp2_with fail
        go_loopg [45] (m.length + 1) (fun kq v45 wr => ∃ (i : Nat) (E' : List BoxRow) (done : List S41), v45 = .int .i64 i ∧ i ≤ m.length ∧ m.length < i + kq ∧ done.length ≤ 60 + i ∧ Aside0 (ChainAt wr w2.heap.size (OldNew w2.heap.size w3.heap.size w6.heap.size) p E' r) ∧ Aside0 (Small (60 + i) (hands E')) ∧ Aside0 (Tells (hands E') done) ∧ Aside0 (∃ t, ownP done box = was ++ t) ∧ Aside0 (∀ k, w3.heap.size ≤ k → k < w6.heap.size → wr.heap[k]? = w6.heap[k]?) ∧ Aside0 (w6.heap.size ≤ wr.heap.size) ∧ Aside0 (Below w.heap.size w wr))
        case atStart => exact ⟨0, E, kept [] l, rfl, Nat.zero_le _, by omega, by have h9 := kept_len l []; have := HL.out; simp at h9; omega, HC6, HSM3, HT3, ⟨⟨[], by rw [HWAS.out, HT3.out.get]; simp⟩⟩, ⟨fun _ _ _ => rfl⟩, ⟨Nat.le_refl _⟩, HB6⟩
        case round =>
          clear HB6 HC6
          obtain ⟨i, E', done, rfl, hi, hk, hdl, HCi, HSMi, HTi, HG, HK, HSZ, HB⟩ := hrel
          by_cases hlt : i < m.length
          · obtain ⟨ad, rfl, hx0, hx1, hx2, hx3, hx4⟩ := at_T41 HRM.out i (by omega) (by omega)
            replace hx0 := (HB.out.cell (World.block_lt_of_cell? w _ hx0)).trans hx0
            replace hx1 := (HB.out.cell (World.block_lt_of_cell? w _ hx1)).trans hx1
            replace hx2 := (HB.out.cell (World.block_lt_of_cell? w _ hx2)).trans hx2
            replace hx3 := (HB.out.cell (World.block_lt_of_cell? w _ hx3)).trans hx3
            replace hx4 := (HB.out.cell (World.block_lt_of_cell? w _ hx4)).trans hx4
            obtain ⟨h, hh⟩ : ∃ h, h = rd_T41 m (i : Int) := ⟨_, rfl⟩
            rw [← hh, Int.toNat_natCast] at hx0 hx1 hx2 hx3 hx4
            have HSH := Aside0.mk (HZM.out h (by rw [hh]; exact rd_mem hlt))
            have HSM2 : Aside0 (Small 1000000 (hands E')) := ⟨⟨by have := HSMi.out.1; have := HLM.out; omega, fun x hx => by have := HSMi.out.2 x hx; have := HLM.out; omega⟩⟩
            have HEL2 : Aside0 (E'.length ≤ 1000000) := ⟨by have := HSM2.out.1; simpa [hands] using this⟩
            clear hh
            by_cases hf : h.f1.toList = []
            · have hfe : h.f1.toList.isEmpty = true := by simp [hf]
              have hdo : doM (hands E') h = beginM (hands E') h.f0 h.f2 h.f3 h.f4 := by simp [doM, hf]
              have HDO := Aside0.mk hdo
              clear hf hdo
              go_wp2_with fail
              have HW := Aside0.mk (below_alloc (Below.refl wr.heap.size wr) (handO h))
              have hh1 := heap_alloc_new wr (handO h)
              have HWS : Aside0 ((wr.alloc (handO h)).heap.size = wr.heap.size + 1) := ⟨by simp⟩
              generalize (wr.alloc (.cells #[.string h.f0, .string h.f1, .string h.f2, .string h.f3, .int .i64 h.f4] 41)) = W at HW hh1 HWS ⊢
              obtain ⟨k0, k1, k2, k3, k4⟩ := hand_cells hh1
              have HCW := Aside0.mk (HCi.out.below HW.out)
              clear hx0 hx1 hx2 hx3 hx4 hh1
              go_wp2_with fail
              refine (begin_any w2.heap.size _ p r E' h.f0 h.f2 h.f3 h.f4 W HCW.out (by have := HSZ.out; have := HS36.out; have := HS23.out; have := HWS.out; omega) (fun k hk => Or.inr (by have := HSZ.out; have := HWS.out; omega)) (HSH.out _ (by simp)) (HSH.out _ (by simp)) (HSH.out _ (by simp)) HEL2.out).mono ?_
              rintro e w8 ⟨E'', rfl, hC8, hh8, hT8⟩
              have HC8 := Aside0.mk hC8
              have HH8 : Aside0 (hands E'' = doM (hands E') h) := ⟨by rw [hh8, HDO.out]⟩
              have HB8 : Aside0 (Below w.heap.size w w8) := ⟨(HB.out.trans (HW.out.mono (by have := HSZ.out; have := HS36.out; have := HS23.out; have := HSW2.out; omega))).trans (hT8.below (by have := HSZ.out; have := HS36.out; have := HS23.out; have := HSW2.out; have := HWS.out; omega) (fun k hk hc => by have := HS36.out; have := HS23.out; have := HSW2.out; rcases hc with hc | hc <;> omega))⟩
              have HK8 : Aside0 (∀ k, w3.heap.size ≤ k → k < w6.heap.size → w8.heap[k]? = w6.heap[k]?) := ⟨fun k h1 h2 => by
                have h3 := hT8.block k (by have := HSZ.out; have := HWS.out; omega) (fun hc => by rcases hc with hc | hc <;> omega)
                have h4 := HW.out.block k (by have := HSZ.out; omega)
                rw [h3, h4]
                exact HK.out k h1 h2⟩
              have HSZ8 : Aside0 (w6.heap.size ≤ w8.heap.size) := ⟨by have := hT8.size; have := HSZ.out; have := HWS.out; omega⟩
              clear hC8 hh8 hT8
              go_wp2
              go_roundg (gk - 1)
              case measure => omega
              case rel =>
                refine ⟨i + 1, E'', kept done [h], by rw [wrap_one (by omega) (by have := HLM.out; omega)]; rfl, by omega, by omega, ?_, HC8, ⟨?_⟩, ⟨?_⟩, ⟨?_⟩, HK8, HSZ8, HB8⟩
                · have := kept_len [h] done; simp at this; omega
                · rw [HH8.out]; exact small_do HSMi.out h
                · rw [HH8.out]; exact HTi.out.does (by have := HLM.out; omega) h
                · obtain ⟨t, ht⟩ := HG.out
                  obtain ⟨u, hu⟩ := own_grows done [h] box
                  exact ⟨t ++ u, by rw [hu, ht, List.append_assoc]⟩
            · have hfe : h.f1.toList.isEmpty = false := by simpa using hf
              have hdo : doM (hands E') h = handM (hands E') h := by simp [doM, hf]
              have HDO := Aside0.mk hdo
              clear hf hdo
              go_wp2_with fail
              have HW := Aside0.mk (below_alloc (Below.refl wr.heap.size wr) (handO h))
              have hh1 := heap_alloc_new wr (handO h)
              have HWS : Aside0 ((wr.alloc (handO h)).heap.size = wr.heap.size + 1) := ⟨by simp⟩
              generalize (wr.alloc (.cells #[.string h.f0, .string h.f1, .string h.f2, .string h.f3, .int .i64 h.f4] 41)) = W at HW hh1 HWS ⊢
              obtain ⟨k0, k1, k2, k3, k4⟩ := hand_cells hh1
              have HCW := Aside0.mk (HCi.out.below HW.out)
              clear hx0 hx1 hx2 hx3 hx4 hh1
              go_wp2_with fail
              refine (hand_any w2.heap.size _ p r E' h W HCW.out (by have := HSZ.out; have := HS36.out; have := HS23.out; have := HWS.out; omega) (fun k hk => Or.inr (by have := HSZ.out; have := HWS.out; omega)) HSH.out HSM2.out).mono ?_
              rintro e w8 ⟨E'', rfl, hC8, hh8, hT8⟩
              have HC8 := Aside0.mk hC8
              have HH8 : Aside0 (hands E'' = doM (hands E') h) := ⟨by rw [hh8, HDO.out]⟩
              have HB8 : Aside0 (Below w.heap.size w w8) := ⟨(HB.out.trans (HW.out.mono (by have := HSZ.out; have := HS36.out; have := HS23.out; have := HSW2.out; omega))).trans (hT8.below (by have := HSZ.out; have := HS36.out; have := HS23.out; have := HSW2.out; have := HWS.out; omega) (fun k hk hc => by have := HS36.out; have := HS23.out; have := HSW2.out; rcases hc with hc | hc <;> omega))⟩
              have HK8 : Aside0 (∀ k, w3.heap.size ≤ k → k < w6.heap.size → w8.heap[k]? = w6.heap[k]?) := ⟨fun k h1 h2 => by
                have h3 := hT8.block k (by have := HSZ.out; have := HWS.out; omega) (fun hc => by rcases hc with hc | hc <;> omega)
                have h4 := HW.out.block k (by have := HSZ.out; omega)
                rw [h3, h4]
                exact HK.out k h1 h2⟩
              have HSZ8 : Aside0 (w6.heap.size ≤ w8.heap.size) := ⟨by have := hT8.size; have := HSZ.out; have := HWS.out; omega⟩
              clear hC8 hh8 hT8
              go_wp2
              go_roundg (gk - 1)
              case measure => omega
              case rel =>
                refine ⟨i + 1, E'', kept done [h], by rw [wrap_one (by omega) (by have := HLM.out; omega)]; rfl, by omega, by omega, ?_, HC8, ⟨?_⟩, ⟨?_⟩, ⟨?_⟩, HK8, HSZ8, HB8⟩
                · have := kept_len [h] done; simp at this; omega
                · rw [HH8.out]; exact small_do HSMi.out h
                · rw [HH8.out]; exact HTi.out.does (by have := HLM.out; omega) h
                · obtain ⟨t, ht⟩ := HG.out
                  obtain ⟨u, hu⟩ := own_grows done [h] box
                  exact ⟨t ++ u, by rw [hu, ht, List.append_assoc]⟩
          · obtain ⟨t, ht⟩ := HG.out
            have HOWN : Aside0 (hget (hands E') box = was ++ t) := ⟨by rw [HTi.out.get, ht]⟩
            have HDW : Aside0 (ChainAt _ w3.heap.size (fun k => w3.heap.size ≤ k) p2 E2 r2) := ⟨HD6.out.step (w' := wr) fun k h1 h2 => HK.out k h1 h2⟩
            have HWW := Aside0.mk (hand_step HW6.out (w' := wr) HK.out)
            have HAW := Aside0.mk (text_step HA6.out (w' := wr) HK.out)
            have HSM2 : Aside0 (Small 1000000 (hands E')) := ⟨⟨by have := HSMi.out.1; have := HLM.out; omega, fun x hx => by have := HSMi.out.2 x hx; have := HLM.out; omega⟩⟩
            have HG2 : Aside0 (hget (hands E2) box = was) := ⟨by rw [hget_perm HP4.out HND.out, HWAS.out]⟩
            have HKP : Aside0 ((E2.map (·.1)).Perm (E.map (·.1))) := ⟨by have := HP4.out.map (·.1); simpa [hands, List.map_map, Function.comp_def] using this⟩
            have HW5 := Aside0.mk (Kd.R_reads' HWW.out).2.2
            have HA5 := Aside0.mk (Kd.R_reads' HAW.out).2.2
            clear ht HWW HAW
            go_wp2_with fail
            refine (history_any _ _ p2 r2 E2 box wr HDW.out (small_perm HP4.out HSM1.out)).mono ?_
            rintro e w8 ⟨v8, rfl, hR8, hb8⟩
            rw [HG2.out] at hR8
            obtain ⟨A8, c8, rfl, hc8, hrd8⟩ := Kd.R_reads hR8
            have HB8 := Aside0.mk (HB.out.trans (hb8.mono HB.out.size))
            have HD8 := Aside0.mk (HDW.out.below hb8)
            have HC8 := Aside0.mk (HCi.out.below hb8)
            have HW8 := Aside0.mk (Kd.C_below HW5.out hb8)
            have HA8 := Aside0.mk (Kd.C_below HA5.out hb8)
            have HR8 := Aside0.mk hrd8
            have HL8 := Aside0.mk hc8
            clear hR8 hb8 hrd8 hc8 HB HDW HW5 HA5
            go_wp2_with fail
            refine (same_any A8 A5 c8 c5 was was w8 rfl HR8.out HL8.out HW8.out HC5.out (by have := HWL.out; omega)).mono ?_
            rintro e w9 ⟨rfl, hb9⟩
            have HB9 := Aside0.mk (HB8.out.trans (hb9.mono HB8.out.size))
            have HD9 := Aside0.mk (HD8.out.below hb9)
            have HC9 := Aside0.mk (HC8.out.below hb9)
            have HW9 := Aside0.mk (Kd.C_below HW8.out hb9)
            have HA9 := Aside0.mk (Kd.C_below HA8.out hb9)
            clear hb9 HB8 HD8 HC8 HW8 HA8 HR8
            go_wp2_with fail
            refine (boxes_any _ _ p2 r2 E2 w9 HD9.out (by have h9 := HKP.out.length_eq; have := HEL.out; simp at h9; omega) (fun x hx => by
              obtain ⟨y, hy, e⟩ := List.mem_map.1 (HKP.out.mem_iff.1 (List.mem_map.2 ⟨x, hx, rfl⟩))
              rw [← e]; exact HKS.out y hy)).mono ?_
            rintro e w10 ⟨v10, rfl, hR10, hb10⟩
            rw [sortedT_perm HKP.out] at hR10
            obtain ⟨A10, c10, rfl, hc10, hrd10⟩ := Kd.R_reads hR10
            have HB10 := Aside0.mk (HB9.out.trans (hb10.mono HB9.out.size))
            have HC10 := Aside0.mk (HC9.out.below hb10)
            have HW10 := Aside0.mk (Kd.C_below HW9.out hb10)
            have HA10 := Aside0.mk (Kd.C_below HA9.out hb10)
            have HR10 := Aside0.mk hrd10
            have HL10 := Aside0.mk hc10
            clear hb10 HB9 HD9 HC9 HW9 HA9 hR10 hrd10 hc10
            go_wp2_with fail
            refine (texts_any A10 A6 c10 c6 _ _ w10 rfl HR10.out HL10.out HA10.out HC6'.out (by rw [sortedT_len]; have := HEL.out; simp; omega)).mono ?_
            rintro e w11 ⟨rfl, hb11⟩
            have HB11 := Aside0.mk (HB10.out.trans (hb11.mono HB10.out.size))
            have HC11 := Aside0.mk (HC10.out.below hb11)
            have HW11 := Aside0.mk (Kd.C_below HW10.out hb11)
            clear hb11 HB10 HC10 HW10 HA10 HR10
            go_wp2_with fail
            refine (history_any _ _ p r E' box w11 HC11.out HSM2.out).mono ?_
            rintro e w12 ⟨v12, rfl, hR12, hb12⟩
            rw [HOWN.out] at hR12
            obtain ⟨A12, c12, rfl, hc12, hrd12⟩ := Kd.R_reads hR12
            have HB12 := Aside0.mk (HB11.out.trans (hb12.mono HB11.out.size))
            have HW12 := Aside0.mk (Kd.C_below HW11.out hb12)
            have HR12 : Aside0 (Kd.C k41 w12 A12 was.length was) := ⟨by
              have := hand_take hrd12 was.length (by simp)
              rwa [List.take_left' rfl] at this⟩
            have hge : was.length ≤ (was ++ t).length := by simp
            have hcw : was.length ≤ c12 := Nat.le_trans hge hc12
            have HCW := Aside0.mk hcw
            have hdec : decide ((was.length : Int) ≤ ((was ++ t).length : Int)) = true := decide_eq_true (by omega)
            clear hb12 HB11 HC11 HW11 hR12 hrd12 hc12
            go_wp2_with fail
            refine (same_n A12 A5 c12 c5 was.length was.length was was w12 rfl HR12.out HCW.out HW12.out HC5.out (by have := HWL.out; omega)).mono ?_
            rintro e w13 ⟨rfl, hb13⟩
            have HB13 := Aside0.mk (HB12.out.trans (hb13.mono HB12.out.size))
            clear hb13 HB12 HW12 HR12
            go_wp2_with fail
            refine (awake_any w13).mono ?_
            rintro e w14 ⟨rfl, hb14⟩
            have HB14 := Aside0.mk (HB13.out.trans (hb14.mono HB13.out.size))
            clear hb14
            go_wp2
            go_ret
            exact ⟨rfl, HB14.out⟩

namespace CustodyCopiesRow
open Go.ChangeShapes Go.WideShapes Go.ChangeAt Go.RowKit
open Go.ChangeMaps (open_string shut_string)
theorem own : ownKnob Try.prog.godebug = none := by kernel_rfl
theorem laidOut : laidOutB Try.prog = true := by kernel_rfl
set_option maxRecDepth 100000 in
theorem lifted (os : Os) (started : os.Started) (H : Type) (enc : TypeId × Value → H) :
    ReturnsInHanded {} Try.checked os 6 .any (Rows.custodyCopiesSpec.pre6 enc Try.prog Try.f6 Rows.custodyCopiesRow.domain false) (Rows.custodyCopiesSpec.post enc Try.prog Try.f6 false true false false) := by
  refine returnsInHanded_of_change_sized (C := Try.checked) own started (by kernel_rfl) Try.func6
    (ChangeSpec.witness6 (enc := enc) (C := Try.checked) false ⟨#[], #[.slice none 0 0, .slice none 0 0, .string ByteArray.empty], []⟩ 8 (by kernel_rfl) (by kernel_rfl) (by kernel_rfl) (by kernel_rfl)) ?_
  intro W base args ds gs before hval0 hW hcnd hsz0 _
  have hsz : (DataW.weightsEach Try.prog (Try.f6.params.toList ++ Rows.custodyCopiesSpec.plain.varTypes Try.prog) (ds ++ gs)).all (· ≤ reachBytes) = true := hsz0
  have hval : ∀ (j : Nat) t v, Try.f6.params[j]? = some t → args[j]? = some v → Value.okWide Try.prog W .any base t v := hval0
  have hW' := hW
  obtain ⟨p, q, hA0, hV, rfl, hfz, hnd⟩ := hW
  have hA : DataW.TrodAll enc Try.prog W 0 (fun _ => true) true Try.f6.params.toList args.toList ds p := hA0
  rw [Try.params6] at hA hval hsz
  obtain ⟨v0, vs0, d0, ds0, p0, q0, hargs, rfl, rfl, h0, r0⟩ := trodAll_cons hA
  obtain ⟨v1, vs1, d1, ds1, p1, q1, rfl, rfl, rfl, h1, r1⟩ := trodAll_cons r0
  obtain ⟨v2, vs2, d2, ds2, p2, q2, rfl, rfl, rfl, h2, r2⟩ := trodAll_cons r1
  obtain ⟨rfl, rfl, rfl⟩ := trodAll_nil r2
  obtain rfl : args = #[v0, v1, v2] := by cases args; simp_all
  obtain ⟨rfl, rfl⟩ := trodVars_none hV
  obtain ⟨a0, len0, cap0, rfl⟩ := okWide_slice Try.underlying22 (hval 0 22 v0 rfl rfl)
  have k0 := h0
  have lt0 : ∀ x ∈ p0, x.block < W.heap.size := by obtain ⟨m, hm⟩ := k0; exact DataW.trod_lt m _ _ _ hm
  obtain ⟨l0, rfl, hc0, hr0, hs0⟩ := open_hands hsz (j := 0) rfl rfl h0
  obtain ⟨a1, len1, cap1, rfl⟩ := okWide_slice Try.underlying22 (hval 1 22 v1 rfl rfl)
  have k1 := h1
  have lt1 : ∀ x ∈ p1, x.block < W.heap.size := by obtain ⟨m, hm⟩ := k1; exact DataW.trod_lt m _ _ _ hm
  obtain ⟨l1, rfl, hc1, hr1, hs1⟩ := open_hands hsz (j := 1) rfl rfl h1
  obtain ⟨a2, rfl, rfl, rfl, y2⟩ := open_string Try.underlying9 (hval 2 9 v2 rfl rfl) h2
  have w2 : a2.size ≤ 140737488351232 := by
    have z := sized_string hsz (j := 2) (t := 9) rfl rfl
    rw [Array.length_toList] at z
    exact z
  clear hA0 hval0 hsz0 hsz
  refine (copies_walk a0 cap0 l0 a1 cap1 l1 a2 W hr0 hc0 hs0 hr1 hc1 hs1 w2).mono fun e W' ⟨he, bel⟩ => ?_
  subst he
  exact ⟨_, rfl, _, _, _, [], _, [], hW', trodAll_mk1 (shut_bool Try.underlying4 _), (trodAll_cons_mk (Below.trod laidOut (by kernel_rfl) (of_decide_eq_true (by kernel_rfl)) k0 bel lt0) (trodAll_cons_mk (Below.trod laidOut (by kernel_rfl) (of_decide_eq_true (by kernel_rfl)) k1 bel lt1) (trodAll_cons_mk (shut_string Try.underlying9 y2) trodAll_mk0))), rfl, bel.frame _, fun h => by cases h⟩
theorem over : Rows.custodyCopiesRow.holds Try.pinned (OpenSpec.ofChange Rows.custodyCopiesSpec) :=
  OpenClaim.holds_of_wide 6 Try.f6 rfl rfl rfl rfl rfl rfl rfl ⟨rfl, rfl, rfl, rfl, rfl⟩ rfl rfl rfl rfl rfl (by kernel_rfl) Try.func6 (by kernel_rfl)
    (of_decide_eq_true (by kernel_rfl)) (by unfold Func.isWrapper; first | (rw [if_pos (by decide +kernel)]; kernel_rfl) | (rw [if_neg (by decide +kernel)]; exact ⟨rfl, rfl⟩))
    (fun os started H enc _ => lifted os started H enc)
end CustodyCopiesRow
/-- CustodyCopies, for every input. -/
theorem custodyCopies_holds : Rows.CustodyCopiesSaid := CustodyCopiesRow.over
end Go.Proofs.Ytonnhdffjbpgnaa
