/- The law CustodyOnce holds at every row of hand-overs. Conditions: texts as a machine can hold. -/
import Derived.Test.YtonnhdffjbpgnaaLong
import Derived.Test.YtonnhdffjbpgnaaAwake
import Derived.Test.YtonnhdffjbpgnaaOnce
import Derived.Test.YtonnhdffjbpgnaaRows
import Derived.WalkKit
import Derived.ChangeOld
import Derived.Below
set_option linter.unusedVariables false
set_option linter.unusedSimpArgs false
set_option linter.unusedSectionVars false
namespace Go.Proofs.Ytonnhdffjbpgnaa
open Go.RowKit Go.Proofs.YtonnhdffjbpgnaaW.PrintWords Go.Proofs.YtonnhdffjbpgnaaW.PrintLast Go.Proofs.YtonnhdffjbpgnaaW.PrintMore
open Q

set_option maxRecDepth 100000 in
set_option maxHeartbeats 4000000 in
theorem once_walk (A : Option Addr) (c : Nat) (l : List S41) (w : World) (hr : Kd.C k41 w A l.length l) (hc : l.length ≤ c) (hs : Sized4 l) :
    Calls Try.prog 7 #[.slice A l.length c] w fun e w' => e = .returned (.bool true) ∧ Below w.heap.size w w' := by
  have HR := Aside0.mk hr
  have HC := Aside0.mk hc
  have HS := Aside0.mk hs
  clear hr hc hs
  have hmm := @run_makeMap Try.prog
  go_enter Try.func7, Try.ntmps7
  go_wp2_with fail
  refine (long_any A c l w HR.out HC.out HS.out).mono ?_
  rintro e w1 ⟨rfl, hb1⟩
  have HB := Aside0.mk hb1
  clear hb1
  cases hlg : longB l with
  | true =>
    go_wp2_with fail
    refine (awake_any w1).mono ?_
    rintro e wz ⟨rfl, hbz⟩
    have HBZ := Aside0.mk (HB.out.trans (hbz.mono HB.out.size))
    clear hbz
    go_wp2
    go_ret
    exact ⟨rfl, HBZ.out⟩
  | false =>
    have HL := Aside0.mk (short_len hlg)
    have HZ := Aside0.mk (short_sized2 hlg)
    have HZ2 := Aside0.mk (short_sized hlg)
    clear hlg
    go_wp2_with fail
    refine (play_any A c l w1 (Kd.C_below HR.out HB.out) HZ.out (by have := HL.out; omega)).mono ?_
    rintro e w2 ⟨p, r, E, v1, rfl, hC, hT, hSm, hR1, hb2⟩
    obtain ⟨done, hdone⟩ : ∃ done, done = kept [] l := ⟨_, rfl⟩
    rw [← hdone] at hT
    have HDL : Aside0 (done.length ≤ 60) := ⟨by rw [hdone]; have h1 := kept_len l []; have := HL.out; simp at h1; omega⟩
    have HDM : Aside0 (∀ x ∈ done, x ∈ l) := ⟨fun x hx => by
      rw [hdone] at hx
      rcases kept_mem l [] x hx with h | h
      · simp at h
      · exact h⟩
    have HACC : Aside0 (Acc [] done) := ⟨by rw [hdone]; exact acc_kept_row l [] trivial⟩
    have HKS : Aside0 (∀ x ∈ E, x.1.size ≤ maxLen) := ⟨fun x hx => Nat.le_trans (tells_keys hT (n := 200) (fun y hy => HZ2.out y (HDM.out y hy) _ (by simp)) (x.1, x.2.2) (List.mem_map.2 ⟨x, hx, rfl⟩)) (by unfold maxLen; omega)⟩
    have HSM : Aside0 (Small 1000000 (hands E)) := ⟨⟨by have := hSm.1; have := HL.out; omega, fun x hx => by have := hSm.2 x hx; have := HL.out; omega⟩⟩
    have HEL : Aside0 (E.length ≤ 1000000) := ⟨by have := HSM.out.1; simpa [hands] using this⟩
    have HT := Aside0.mk hT
    have HND := Aside0.mk hC.keys
    have HB2 := Aside0.mk (HB.out.trans (hb2.mono HB.out.size))
    have HC2 := Aside0.mk hC
    clear hC hT hSm hR1 hb2 HB hdone
    go_wp2_with fail
    have hbm : Below w2.heap.size w2 (w2.alloc (.map #[] 0)) := (Below.refl _ _).alloc (Nat.le_refl _) _
    have HMP : Aside0 (MapAt Value.string (w2.alloc (.map #[] 0)) w2.heap.size []) := ⟨MapAt.made Value.string w2⟩
    have HX := Aside0.mk hbm
    clear hbm
    go_loopg [32] (l.length + 1) (fun kq v32 wr => ∃ (i : Nat) (PL : List (ByteArray × Value)), v32 = .int .i64 i ∧ i ≤ l.length ∧ l.length < i + kq ∧ Aside0 (MapAt Value.string wr w2.heap.size PL) ∧ Aside0 (Spoken PL (l.take i)) ∧ Aside0 (Below w2.heap.size w2 wr))
    case atStart => exact ⟨0, [], rfl, Nat.zero_le _, by omega, HMP, ⟨fun x => by simp⟩, HX⟩
    case round =>
      clear HMP HX
      obtain ⟨i, PL, rfl, hi, hk, HMP, HSP, HX⟩ := hrel
      have HBr := Aside0.mk (HB2.out.trans (HX.out.mono HB2.out.size))
      by_cases hlt : i < l.length
      · obtain ⟨ad, rfl, hx0, hx1, hx2, hx3, hx4⟩ := at_T41 HR.out i (by omega) (by omega)
        replace hx0 := (HBr.out.cell (World.block_lt_of_cell? w _ hx0)).trans hx0
        replace hx1 := (HBr.out.cell (World.block_lt_of_cell? w _ hx1)).trans hx1
        replace hx2 := (HBr.out.cell (World.block_lt_of_cell? w _ hx2)).trans hx2
        replace hx3 := (HBr.out.cell (World.block_lt_of_cell? w _ hx3)).trans hx3
        replace hx4 := (HBr.out.cell (World.block_lt_of_cell? w _ hx4)).trans hx4
        have hdr := drop_rd hlt
        obtain ⟨h, hh⟩ : ∃ h, h = rd_T41 l (i : Int) := ⟨_, rfl⟩
        rw [← hh, Int.toNat_natCast] at hx0 hx1 hx2 hx3 hx4
        rw [← hh] at hdr
        have HTK : Aside0 (l.take (i + 1) = l.take i ++ [h]) := ⟨by
          have h9 : l[i]? = some h := by
            have := congrArg List.head? hdr
            simpa [List.head?_drop] using this
          rw [List.take_add_one, h9]
          rfl⟩
        clear hh hdr
        go_wp2_with fail
        have HW := Aside0.mk (below_alloc (Below.refl wr.heap.size wr) (handO h))
        have hh1 := heap_alloc_new wr (handO h)
        have HMW : Aside0 (MapAt Value.string (wr.alloc (handO h)) w2.heap.size PL) := ⟨HMP.out.alloc _⟩
        have hrl := HMP.out.lt
        generalize (wr.alloc (.cells #[.string h.f0, .string h.f1, .string h.f2, .string h.f3, .int .i64 h.f4] 41)) = W at HW hh1 HMW ⊢
        obtain ⟨k0, k1, k2, k3, k4⟩ := hand_cells hh1
        obtain ⟨W1, hrun1, hM1, hT1⟩ := run_update (P := Try.prog) (strKey Try.underlying9) Try.underlying50 (HMW.out.drew) h.f2 (.bool true)
        obtain ⟨W2, hrun2, hM2, hT2⟩ := run_update (P := Try.prog) (strKey Try.underlying9) Try.underlying50 hM1 h.f1 (.bool true)
        have HPN : Aside0 (wr.heap.size ≠ w2.heap.size) := ⟨by omega⟩
        have HM2 := Aside0.mk hM2
        have HTa := Aside0.mk hT1
        have HTb := Aside0.mk hT2
        clear hx0 hx1 hx2 hx3 hx4 hh1 hM1 hM2
        go_region_held3 (fun w' => w'.cell? ⟨wr.heap.size, 1, none⟩ = some (.string h.f1) ∧ w'.cell? ⟨wr.heap.size, 2, none⟩ = some (.string h.f2))
          (first
            | go_keep
            | (go_split_ands
               refine ⟨?_, ?_⟩
               all_goals (rw [World.cell?_of_block (w := W.drew) (hT1.block _ HPN.out)]; assumption))
            | (go_split_ands
               refine ⟨?_, ?_⟩
               all_goals (rw [World.cell?_of_block (w := W1) (hT2.block _ HPN.out)]; assumption)))
          (fail)
        go_wp2
        go_roundg (gk - 1)
        case measure => omega
        case rel =>
          refine ⟨i + 1, mput (mput PL h.f2 (.bool true)) h.f1 (.bool true), by rw [wrap_one (by omega) (by have := HL.out; omega)]; rfl, by omega, by omega, HM2, ⟨?_⟩, ⟨?_⟩⟩
          · rw [HTK.out]
            refine HSP.out.step fun y => ?_
            rw [mput_mem, mput_mem]
            constructor
            · rintro (h | h | h) <;> simp [h]
            · rintro (h | h | h) <;> simp [h]
          · exact ((HX.out.trans ((HW.out.trans (below_drew (Below.refl _ _))).mono HX.out.size)).trans (HTa.out.below (Nat.le_refl _))).trans (HTb.out.below (Nat.le_refl _))
      · have HSPL : Aside0 (Spoken PL l) := ⟨by
          have h9 : i = l.length := by omega
          have := HSP.out
          rw [h9, List.take_length] at this
          exact this⟩
        clear HSP
        have hrl := HMP.out.lt
        obtain ⟨W4, hrun, hRg, o, ho⟩ := run_range_at (P := Try.prog) Try.underlying50 (HMP.out.alloc (.map #[] 0))
        have HRG := Aside0.mk hRg
        have hb4 : Below wr.heap.size wr W4 := by rw [ho]; exact ((Below.refl _ _).alloc (Nat.le_refl _) _).alloc (by simp) _
        have HF4 : Aside0 (MapAt Value.string W4 wr.heap.size []) := ⟨by rw [ho]; exact (MapAt.made Value.string wr).alloc _⟩
        have hit : (wr.alloc (.map #[] 0)).heap.size = wr.heap.size + 1 := by simp
        rw [hit] at hRg hrun
        have HRG := Aside0.mk hRg
        have HX4 := Aside0.mk (HX.out.trans (hb4.mono HX.out.size))
        have HPS := Aside0.mk hrl
        have HX5 := Aside0.mk HX.out
        clear hRg hb4 ho hit HMP HBr HX
        obtain ⟨rF, hrF⟩ : ∃ rF, rF = wr.heap.size := ⟨_, rfl⟩
        rw [← hrF] at HF4 HRG HPS hrun
        have HRF := Aside0.mk hrF
        go_wp2_with fail
        rw [← hrF]
        clear hrF hrun
        go_loopg [] (PL.length + 1) (fun kq wr' => ∃ (rest FL : List (ByteArray × Value)), rest.length < kq ∧ Aside0 (Ranging Value.string wr' w2.heap.size (rF + 1) PL rest) ∧ Aside0 (MapAt Value.string wr' rF FL) ∧ Aside0 (∀ q ∈ rest, q.1 ∈ PL.map (·.1)) ∧ Aside0 ((rest.map (·.1)).Nodup) ∧ Aside0 (Found2 (hands E) FL (fun b => b ∈ (hands E).map (·.1) ∧ owner (hands E) b ∈ PL.map (·.1) ∧ owner (hands E) b ∉ rest.map (·.1))) ∧ Aside0 (Below w2.heap.size w2 wr'))
        case atStart => exact ⟨PL, [], by omega, HRG, HF4, ⟨fun q hq => List.mem_map.2 ⟨q, hq, rfl⟩⟩, ⟨HRG.out.map.nodup⟩, ⟨fun b => ⟨fun h => absurd h.2.1 h.2.2, fun _ => rfl⟩⟩, HX4⟩
        case round =>
          obtain ⟨rest, FL, hlen, HRG2, HFM, HRP, HRN, HFO, HXr⟩ := hrel
          obtain ⟨g2, hg2⟩ : ∃ g, g = gk := ⟨_, rfl⟩
          obtain ⟨wr2, hwr2⟩ : ∃ g, g = wr := ⟨_, rfl⟩
          rcases run_next_of (P := Try.prog) HRG2.out 0 with ⟨h0, hrun⟩ | ⟨q, rest', w3, hpm, hrun, hRg3, hT3, hent⟩
          · have HFO2 : Aside0 (Found2 (hands E) FL (fun b => b ∈ (hands E).map (·.1))) := ⟨HFO.out.congr fun b => by
              rw [h0]
              constructor
              · intro hb
                obtain ⟨last, hm, _, he⟩ := owner_at HT.out HACC.out (by have := HDL.out; omega) hb
                exact ⟨hb, by rw [he]; exact (HSPL.out _).2 ⟨last, HDM.out _ hm, Or.inl rfl⟩, by simp⟩
              · intro h; exact h.1⟩
            have HFL : Aside0 (FL.length = (sortedT (E.map (·.1))).length) := ⟨by
              rw [sortedT_len, HFO2.out.len HND.out HFM.out.nodup]
              simp [hands]⟩
            have HCr := Aside0.mk (HC2.out.below HXr.out)
            have HBr := Aside0.mk (HB2.out.trans (HXr.out.mono HB2.out.size))
            clear h0 HFO HRP HRN
            go_wp2_with fail
            refine (boxes_any _ _ p r E wr HCr.out HEL.out HKS.out).mono ?_
            rintro e w5 ⟨v5, rfl, hR5, hb5⟩
            obtain ⟨A5, c5, rfl, hc5, hrd5⟩ := Kd.R_reads hR5
            have HR5 := Aside0.mk hrd5
            have HM5 := Aside0.mk (HFM.out.keep (hb5.block _ HFM.out.lt))
            have HC5 := Aside0.mk (HCr.out.below hb5)
            have HB5 := Aside0.mk (HBr.out.trans (hb5.mono HBr.out.size))
            have HYL : Aside0 ((sortedT (E.map (·.1))).length ≤ 1000000) := ⟨by rw [sortedT_len]; have := HEL.out; simpa using this⟩
            obtain ⟨bs, hbs⟩ : ∃ bs, bs = sortedT (E.map (·.1)) := ⟨_, rfl⟩
            rw [← hbs] at HR5 HYL HFL ⊢
            have HBS := Aside0.mk hbs
            clear hR5 hc5 hrd5 hb5 HCr HBr HXr HFM HRG2 hrun hbs
            go_wp2_with fail
            go_loopg [72] (bs.length + 1) (fun kq v72 wq => ∃ j : Nat, v72 = .int .i64 j ∧ j ≤ bs.length ∧ bs.length < j + kq ∧ Aside0 (Kd.C Kd.string wq A5 bs.length bs) ∧ Aside0 (MapAt Value.string wq rF FL) ∧ Aside0 (ChainAt wq w1.heap.size (Apart w1.heap.size v1) p E r) ∧ Aside0 (Below w.heap.size w wq))
            case atStart => exact ⟨0, rfl, Nat.zero_le _, by omega, HR5, HM5, HC5, HB5⟩
            case round =>
              clear HR5 HM5 HC5 HB5
              obtain ⟨j, rfl, hj, hkj, HR5, HM5, HC5, HB5⟩ := hrel
              by_cases hlt : j < bs.length
              · obtain ⟨ad, rfl, hx⟩ := Kd.at_string HR5.out j (by omega) (by omega)
                rw [Int.toNat_natCast] at hx
                have hmem : rdOf ByteArray.empty bs (j : Int) ∈ bs := List.mem_of_mem_drop (i := j) (by rw [rd_bytes hlt]; simp)
                obtain ⟨b, hb⟩ : ∃ b, b = rdOf ByteArray.empty bs (j : Int) := ⟨_, rfl⟩
                rw [← hb] at hx hmem
                rw [HBS.out, mem_sortedT] at hmem
                have hbK : b ∈ (hands E).map (·.1) := by rw [hands_keys]; exact hmem
                obtain ⟨last, hlm, hasb, hown⟩ := owner_at HT.out HACC.out (by have := HDL.out; omega) hbK
                have HAS := Aside0.mk hasb
                have HLK : Aside0 (mget FL b = some (.string last.f2)) := ⟨by rw [← hown]; exact (HFO2.out b).1 hbK⟩
                clear hb hmem hbK hasb hown hlm
                go_wp2_with fail
                refine (now_any _ _ p r E b wr HC5.out).mono ?_
                rintro e w6 ⟨rfl, hb6⟩
                rw [HAS.out]
                have hM6 := HM5.out.keep (hb6.block _ HM5.out.lt)
                have hlk := run_lookup_hit (P := Try.prog) (strKey Try.underlying9) Try.underlying51 hM6 b (.string last.f2) HLK.out false
                simp only [Bool.false_eq_true, if_false] at hlk
                have HR6 := Aside0.mk (Kd.C_below HR5.out hb6)
                have HM6 := Aside0.mk hM6
                have HC6 := Aside0.mk (HC5.out.below hb6)
                have HB6 := Aside0.mk (HB5.out.trans (hb6.mono HB5.out.size))
                clear hb6 hM6 HR5 HM5 HC5 HB5
                go_wp2
                go_roundg (gk - 1)
                case measure => omega
                case rel => exact ⟨j + 1, by rw [wrap_one (by omega) (by have := HYL.out; omega)]; rfl, by omega, by omega, HR6, HM6, HC6, HB6⟩
              · have hfl : FL.length = (sortedT (E.map (·.1))).length := by rw [HFL.out, HBS.out]
                have hfl2 : ((FL.length : Int) == ((sortedT (E.map (·.1))).length : Int)) = true := by rw [hfl]; simp
                go_wp2_with (first
                  | (go_at_call 20; refine (boxes_any _ _ p r E wr HC5.out HEL.out HKS.out).mono ?_; rintro e w6 ⟨v6, rfl, hR6, hb6⟩; obtain ⟨A6, c6, rfl, hc6, hrd6⟩ := Kd.R_reads hR6; have HB6 := Aside0.mk (HB5.out.trans (hb6.mono HB5.out.size)); clear hR6 hc6 hrd6 hb6)
                  | (go_at_call 10; refine (awake_any _).mono ?_; rintro e w7 ⟨rfl, hb7⟩; have HB7 := Aside0.mk (HB6.out.trans (hb7.mono HB6.out.size)); clear hb7)
                  | (at_len; refine wpList_len_at rfl _ 51 rfl Try.underlying51 rfl HM5.out ?_))
                all_goals first
                  | (go_ret; exact ⟨rfl, HB7.out⟩)
                  | (exfalso; simp_all; done)
                  | (exfalso; omega)
          · obtain ⟨who, qv⟩ := q
            simp only at hrun hent
            have hqm := (hpm.mem_iff (a := (who, qv))).2 (by simp)
            have hnd2 : ((who, qv) :: rest').map (·.1) |>.Nodup := (hpm.map (·.1)).nodup_iff.1 HRN.out
            rw [List.map_cons, List.nodup_cons] at hnd2
            have HQ1 : Aside0 (who ∈ PL.map (·.1)) := ⟨HRP.out _ hqm⟩
            have HQN : Aside0 (who ∉ rest'.map (·.1)) := ⟨hnd2.1⟩
            have HRN' := Aside0.mk hnd2.2
            have HRR : Aside0 (∀ x, x ∈ rest.map (·.1) ↔ x = who ∨ x ∈ rest'.map (·.1)) := ⟨fun x => by rw [(hpm.map (·.1)).mem_iff, List.map_cons, List.mem_cons]⟩
            have HRP' : Aside0 (∀ q ∈ rest', q.1 ∈ PL.map (·.1)) := ⟨fun y hy => HRP.out y (hpm.mem_iff.2 (by simp [hy]))⟩
            have hlen' : rest'.length + 1 = rest.length := by have := hpm.length_eq; simpa using this.symm
            have HT3 := Aside0.mk hT3
            have HX3 := Aside0.mk (HXr.out.trans (hT3.below (by have := HPS.out; omega)))
            have HM3 : Aside0 (MapAt Value.string w3 rF FL) := ⟨HFM.out.keep (hT3.block rF (by omega))⟩
            have HRG3 := Aside0.mk hRg3
            have HC3 := Aside0.mk (HC2.out.below HX3.out)
            have HGK := Aside0.mk hg2
            have HLEN := Aside0.mk hlen'
            have HLEN0 := Aside0.mk hlen
            clear hpm hqm hnd2 hT3 hRg3 HRP HRN HFM HXr HRG2 hg2 hlen' hwr2
            go_wp2_with fail
            refine (held_any _ _ p r E who w3 HC3.out HEL.out HKS.out).mono ?_
            rintro e w5 ⟨A5, c5, ys, rfl, hys, hyc, hyr, hb5⟩
            have HYM : Aside0 (∀ b, b ∈ ys ↔ b ∈ (hands E).map (·.1) ∧ owner (hands E) b = who) := ⟨fun b => by
              rw [hys, List.mem_filter, mem_sortedT, hands_keys, keeps_owner]⟩
            have HYN : Aside0 (ys.Nodup) := ⟨by rw [hys]; exact (nodup_sortedT (by rw [← hands_keys]; exact HND.out)).filter _⟩
            have HYL : Aside0 (ys.length ≤ 1000000) := ⟨by
              rw [hys]
              refine Nat.le_trans (List.length_filter_le _ _) ?_
              rw [sortedT_len]
              have := HEL.out
              simpa using this⟩
            have HYR := Aside0.mk hyr
            have HX5 := Aside0.mk (HX3.out.trans (hb5.mono HX3.out.size))
            have HM5 : Aside0 (MapAt Value.string w5 rF FL) := ⟨HM3.out.keep (hb5.block rF HM3.out.lt)⟩
            have HRG5 : Aside0 (Ranging Value.string w5 w2.heap.size (rF + 1) PL rest') := ⟨HRG3.out.keep (hb5.block _ HRG3.out.map.lt) (hb5.block _ HRG3.out.lt)⟩
            have HF5 : Aside0 (Found2 (hands E) FL (fun b => (b ∈ (hands E).map (·.1) ∧ owner (hands E) b ∈ PL.map (·.1) ∧ owner (hands E) b ∉ rest.map (·.1)) ∨ b ∈ ys.take 0)) := ⟨HFO.out.congr fun b => by simp⟩
            clear hys hyc hyr hb5 HM3 HRG3 HX3 HFO HC3
            go_wp2_with fail
            go_loopg [54] (ys.length + 1) (fun kq v54 wq => ∃ (j : Nat) (FL : List (ByteArray × Value)), v54 = .int .i64 j ∧ j ≤ ys.length ∧ ys.length < j + kq ∧ Aside0 (Kd.C Kd.string wq A5 ys.length ys) ∧ Aside0 (MapAt Value.string wq rF FL) ∧ Aside0 (Ranging Value.string wq w2.heap.size (rF + 1) PL rest') ∧ Aside0 (Found2 (hands E) FL (fun b => (b ∈ (hands E).map (·.1) ∧ owner (hands E) b ∈ PL.map (·.1) ∧ owner (hands E) b ∉ rest.map (·.1)) ∨ b ∈ ys.take j)) ∧ Aside0 (Below w2.heap.size w2 wq))
            case atStart => exact ⟨0, FL, rfl, Nat.zero_le _, by omega, HYR, HM5, HRG5, HF5, HX5⟩
            case round =>
              clear HYR HM5 HRG5 HF5 HX5
              obtain ⟨j, FL, rfl, hj, hkj, HYR, HM5, HRG5, HF5, HX5⟩ := hrel
              by_cases hlt : j < ys.length
              · obtain ⟨ad, rfl, hx⟩ := Kd.at_string HYR.out j (by omega) (by omega)
                rw [Int.toNat_natCast] at hx
                have hdr := rd_bytes hlt
                obtain ⟨b, hb⟩ : ∃ b, b = rdOf ByteArray.empty ys (j : Int) := ⟨_, rfl⟩
                rw [← hb] at hx hdr
                have hgt : ys[j]? = some b := by
                  have := congrArg List.head? hdr
                  simpa [List.head?_drop] using this
                have HTK : Aside0 (ys.take (j + 1) = ys.take j ++ [b]) := ⟨by rw [List.take_add_one, hgt]; rfl⟩
                have hby : b ∈ ys := List.mem_of_getElem? hgt
                have hnt : b ∉ ys.take j := by
                  intro hm
                  have hn := HYN.out
                  rw [← List.take_append_drop j ys, hdr] at hn
                  exact (List.nodup_append.1 hn).2.2 b hm b (by simp) rfl
                have hown := ((HYM.out b).1 hby).2
                have HOW := Aside0.mk hown
                have hmiss : mget FL b = none := (HF5.out b).2 (by
                  rintro (⟨_, _, h3⟩ | h)
                  · exact h3 ((HRR.out _).2 (Or.inl hown))
                  · exact hnt h)
                have hlk := run_lookup_miss (P := Try.prog) (strKey Try.underlying9) Try.underlying51 HM5.out b hmiss (zero9 wr) true
                simp only [if_true] at hlk
                clear hb hdr hgt hby hnt hown hmiss
                go_wp2_with (at_mapUpdate; refine wpList_update_at rfl _ _ _ 51 rfl (strKey Try.underlying9) Try.underlying51 b (.string who) rfl rfl rfl HM5.out ?_; intro w6 hM6 hT6; have HM6 := Aside0.mk hM6; have HT6 := Aside0.mk hT6; clear hM6 hT6)
                go_roundg (gk - 1)
                case measure => omega
                case rel =>
                  have hps := HPS.out
                  have hbl : ∀ k, k ≠ rF → w6.heap[k]? = wr.heap[k]? := fun k hk => HT6.out.block k hk
                  refine ⟨j + 1, mput FL b (.string who), by rw [wrap_one (by omega) (by have := HYL.out; omega)]; rfl, by omega, by omega, ⟨?_⟩, HM6, ⟨HRG5.out.keep (hbl _ (by omega)) (hbl _ (by omega))⟩, ⟨?_⟩, ⟨HX5.out.trans (HT6.out.below (by omega))⟩⟩
                  · exact text_past HM5.out hbl HYR.out
                  · exact (HF5.out.put HOW.out).congr fun y => by
                      rw [HTK.out, List.mem_append, List.mem_singleton, or_assoc]
              · have hjn : j = ys.length := by omega
                have HF6 : Aside0 (Found2 (hands E) FL (fun b => b ∈ (hands E).map (·.1) ∧ owner (hands E) b ∈ PL.map (·.1) ∧ owner (hands E) b ∉ rest'.map (·.1))) := ⟨HF5.out.congr fun b => by
                  rw [hjn, List.take_length, HYM.out b, HRR.out]
                  constructor
                  · rintro ⟨h1, h2, h3⟩
                    by_cases e : owner (hands E) b = who
                    · exact Or.inr ⟨h1, e⟩
                    · exact Or.inl ⟨h1, h2, fun h => h.elim e h3⟩
                  · rintro (⟨h1, h2, h3⟩ | ⟨h1, e⟩)
                    · exact ⟨h1, h2, fun h => h3 (Or.inr h)⟩
                    · exact ⟨h1, by rw [e]; exact HQ1.out, by rw [e]; exact HQN.out⟩⟩
                go_wp2
                go_roundg (g2 - 1)
                case measure => have h1 := HGK.out; have h2 := HLEN.out; have h3 := HLEN0.out; omega
                case rel => exact ⟨rest', FL, by have h1 := HGK.out; have h2 := HLEN.out; have h3 := HLEN0.out; omega, HRG5, HM5, HRP', HRN', HF6, HX5⟩

namespace CustodyOnceRow
open Go.ChangeShapes Go.WideShapes Go.ChangeAt Go.RowKit
open Go.ChangeMaps (open_string shut_string)
theorem own : ownKnob Try.prog.godebug = none := by kernel_rfl
theorem laidOut : laidOutB Try.prog = true := by kernel_rfl
set_option maxRecDepth 100000 in
theorem lifted (os : Os) (started : os.Started) (H : Type) (enc : TypeId × Value → H) :
    ReturnsInHanded {} Try.checked os 7 .any (Rows.custodyOnceSpec.pre6 enc Try.prog Try.f7 Rows.custodyOnceRow.domain false) (Rows.custodyOnceSpec.post enc Try.prog Try.f7 false true false false) := by
  refine returnsInHanded_of_change_sized (C := Try.checked) own started (by kernel_rfl) Try.func7
    (ChangeSpec.witness6 (enc := enc) (C := Try.checked) false ⟨#[], #[.slice none 0 0], []⟩ 8 (by kernel_rfl) (by kernel_rfl) (by kernel_rfl) (by kernel_rfl)) ?_
  intro W base args ds gs before hval0 hW hcnd hsz0 _
  have hsz : (DataW.weightsEach Try.prog (Try.f7.params.toList ++ Rows.custodyOnceSpec.plain.varTypes Try.prog) (ds ++ gs)).all (· ≤ reachBytes) = true := hsz0
  have hval : ∀ (j : Nat) t v, Try.f7.params[j]? = some t → args[j]? = some v → Value.okWide Try.prog W .any base t v := hval0
  have hW' := hW
  obtain ⟨p, q, hA0, hV, rfl, hfz, hnd⟩ := hW
  have hA : DataW.TrodAll enc Try.prog W 0 (fun _ => true) true Try.f7.params.toList args.toList ds p := hA0
  rw [Try.params7] at hA hval hsz
  obtain ⟨v0, vs0, d0, ds0, p0, q0, hargs, rfl, rfl, h0, r0⟩ := trodAll_cons hA
  obtain ⟨rfl, rfl, rfl⟩ := trodAll_nil r0
  obtain rfl : args = #[v0] := by cases args; simp_all
  obtain ⟨rfl, rfl⟩ := trodVars_none hV
  obtain ⟨a0, len0, cap0, rfl⟩ := okWide_slice Try.underlying22 (hval 0 22 v0 rfl rfl)
  have k0 := h0
  have lt0 : ∀ x ∈ p0, x.block < W.heap.size := by obtain ⟨m, hm⟩ := k0; exact DataW.trod_lt m _ _ _ hm
  obtain ⟨l0, rfl, hc0, hr0, hs0⟩ := open_hands hsz (j := 0) rfl rfl h0
  clear hA0 hval0 hsz0 hsz
  refine (once_walk a0 cap0 l0 W hr0 hc0 hs0).mono fun e W' ⟨he, bel⟩ => ?_
  subst he
  exact ⟨_, rfl, _, _, _, [], _, [], hW', trodAll_mk1 (shut_bool Try.underlying4 _), (trodAll_cons_mk (Below.trod laidOut (by kernel_rfl) (of_decide_eq_true (by kernel_rfl)) k0 bel lt0) trodAll_mk0), rfl, bel.frame _, fun h => by cases h⟩
theorem over : Rows.custodyOnceRow.holds Try.pinned (OpenSpec.ofChange Rows.custodyOnceSpec) :=
  OpenClaim.holds_of_wide 7 Try.f7 rfl rfl rfl rfl rfl rfl rfl ⟨rfl, rfl, rfl, rfl, rfl⟩ rfl rfl rfl rfl rfl (by kernel_rfl) Try.func7 (by kernel_rfl)
    (of_decide_eq_true (by kernel_rfl)) (by unfold Func.isWrapper; first | (rw [if_pos (by decide +kernel)]; kernel_rfl) | (rw [if_neg (by decide +kernel)]; exact ⟨rfl, rfl⟩))
    (fun os started H enc _ => lifted os started H enc)
end CustodyOnceRow
/-- CustodyOnce, for every input. -/
theorem custodyOnce_holds : Rows.CustodyOnceSaid := CustodyOnceRow.over
end Go.Proofs.Ytonnhdffjbpgnaa
