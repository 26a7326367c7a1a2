/- The law UndertakeDraws, walked: it tells true. Conditions: texts and rows as a machine can hold. -/
import Derived.Test.YtcefdhlmpgdajaaWalkOwes
import Derived.Test.YtcefdhlmpgdajaaPureD
import Derived.IntWalk
set_option linter.unusedVariables false
set_option linter.unusedSimpArgs false
set_option linter.unusedSectionVars false
namespace Go.Proofs.Ytcefdhlmpgdajaa
open Go.RowKit Go.Proofs.YtcefdhlmpgdajaaW.PrintWords Go.Proofs.YtcefdhlmpgdajaaW.PrintLast Go.Proofs.YtcefdhlmpgdajaaW.PrintMore
open Q

theorem scn_take {t : Tm} {h : List S40} {k : Nat} {ev : S40} (hg : h[k]? = some ev) : scn t (h.take (k + 1)) = stp t (scn t (h.take k)) ev := by
  rw [List.take_add_one, hg]
  exact scn_snoc t _ _

set_option maxRecDepth 100000 in
set_option maxHeartbeats 2000000 in
theorem draws_walk (t : Tm) (A : Option Addr) (c : Nat) (l : List S40) (w : World) (hs : Named t) (hr : Kd.C k40 w A l.length l) (hc : l.length ≤ c) :
    Calls Try.prog 4 #[.agg (teCells t), .slice A l.length c] w fun e w' => e = .returned (.bool true) ∧ Below w.heap.size w w' := by
  have HB0 := Aside0.mk (Past.start w t)
  have HR := Aside0.mk hr
  have HC := Aside0.mk hc
  have HNM := Aside0.mk hs
  clear hr hc hs
  go_enter Try.func4, Try.ntmps4
  go_wp2_with fail
  refine (awake_any _).mono ?_
  rintro e w1 ⟨rfl, hb1⟩
  have HB1 := Aside0.mk (HB0.out.step hb1)
  have ht1 := HB1.out.te
  have HLO := Aside0.mk (long_any t)
  have HHE := Aside0.mk (fun (W : World) (hb : Below w.heap.size w W) => heavy_any A c l 40 W (Kd.C_below HR.out hb) HC.out (by omega))
  have HMY := Aside0.mk (fun W => rmay_any t W HNM.out)
  obtain ⟨q0, q1, q2, q3, q4, q5, q6, q7, q8⟩ := te_cells ht1
  clear hb1 ht1
  cases hlo : longB t with
  | true =>
    rw [hlo] at HLO
    clear hlo
    go_wp2_with (go_at_call 8; refine (HLO.out _).mono ?_; rintro e w2 ⟨rfl, hb2⟩; have HB2 := Aside0.mk (HB1.out.step hb2); clear hb2)
    go_ret
    exact ⟨rfl, HB2.out.fin⟩
  | false =>
    rw [hlo] at HLO
    have HLF := Aside0.mk hlo
    clear hlo
    cases hhe : heavyB l 40 with
    | true =>
      rw [hhe] at HHE
      clear hhe
      go_wp2_with (first
        | (go_at_call 8; refine (HLO.out _).mono ?_; rintro e w2 ⟨rfl, hb2⟩; have HB2 := Aside0.mk (HB1.out.step hb2); clear hb2)
        | (go_at_call 9; refine (HHE.out _ HB2.out.fin).mono ?_; rintro e w3 ⟨rfl, q, rfl⟩))
      go_ret
      exact ⟨rfl, (HB2.out.draw _).fin⟩
    | false =>
      rw [hhe] at HHE
      have HHF := Aside0.mk hhe
      clear hhe
      cases hmy : mayB t with
      | false =>
        rw [hmy] at HMY
        clear hmy
        go_wp2_with (first
          | (go_at_call 8; refine (HLO.out _).mono ?_; rintro e w2 ⟨rfl, hb2⟩; have HB2 := Aside0.mk (HB1.out.step hb2); obtain ⟨u0, u1, u2, u3, u4, u5, u6, u7, u8⟩ := te_cells HB2.out.te; clear hb2)
          | (go_at_call 9; refine (HHE.out _ HB2.out.fin).mono ?_; rintro e w3 ⟨rfl, q, rfl⟩)
          | (go_at_call 11; refine (credit_any t _).mono ?_; rintro e w4 ⟨rfl, hb4⟩; have HB4 := Aside0.mk ((HB2.out.draw q).step hb4); clear hb4)
          | (go_at_call 10; refine (HMY.out _).mono ?_; rintro e w5 ⟨rfl, hb5⟩; have HB5 := Aside0.mk (HB4.out.step hb5); clear hb5))
        go_ret
        exact ⟨rfl, HB5.out.fin⟩
      | true =>
        rw [hmy] at HMY
        have HMT := Aside0.mk hmy
        clear hmy
        have HNW := Aside0.mk (fun W => new_any t W HNM.out HMT.out)
        go_wp2_with (first
          | (go_at_call 8; refine (HLO.out _).mono ?_; rintro e w2 ⟨rfl, hb2⟩; have HB2 := Aside0.mk (HB1.out.step hb2); obtain ⟨u0, u1, u2, u3, u4, u5, u6, u7, u8⟩ := te_cells HB2.out.te; clear hb2)
          | (go_at_call 9; refine (HHE.out _ HB2.out.fin).mono ?_; rintro e w3 ⟨rfl, q, rfl⟩))
        refine (credit_any t _).mono ?_
        rintro e w4 ⟨rfl, hb4⟩
        have HB4 := Aside0.mk ((HB2.out.draw q).step hb4)
        clear hb4
        go_wp2_with fail
        refine (HMY.out _).mono ?_
        rintro e w5 ⟨rfl, hb5⟩
        have HB5 := Aside0.mk (HB4.out.step hb5)
        obtain ⟨x0, x1, x2, x3, x4, x5, x6, x7, x8⟩ := te_cells HB5.out.te
        clear hb5 q0 q1 q2 q3 q4 q5 q6 q7 q8 u0 u1 u2 u3 u4 u5 u6 u7 u8
        go_wp2_with fail
        refine (credit_any t _).mono ?_
        rintro e w6 ⟨rfl, hb6⟩
        have HB6 := Aside0.mk (HB5.out.step hb6)
        clear hb6
        go_wp2_with fail
        refine (HNW.out _).mono ?_
        rintro e w7 ⟨g, rfl, hL7, hb7⟩
        have HB7 := Aside0.mk (HB6.out.step hb7)
        have HL7 := Aside0.mk hL7
        have hlen : l.length ≤ 40 ∧ ∀ x ∈ l, x.f1.size ≤ 100 := by
          have := HHF.out
          simp only [heavyB, Bool.or_eq_false_iff, decide_eq_false_iff_not, List.any_eq_false, decide_eq_true_eq] at this
          exact ⟨by omega, fun x hx => by have := this.2 x hx; omega⟩
        have hl40 := hlen.1
        have HSZ := Aside0.mk hlen.2
        have HW6 := Aside0.mk HB6.out.size
        clear hL7 hb7 hlen x0 x1 x2 x3 x4 x5 x6 x7 x8
        go_wp2_with fail
        go_loopg [7] (l.length + 1) (fun kq v wr => ∃ i : Nat, v = .int .i64 i ∧ i ≤ l.length ∧ l.length < i + kq ∧ ∃ pv hv, Aside0 (LifeAt wr (w.heap.size + 1) g t (runS t (l.take i)) pv hv) ∧ Aside0 (Past w t wr))
        case atStart => exact ⟨0, rfl, Nat.zero_le _, by omega, _, _, ⟨HL7.out.lower HW6.out⟩, HB7⟩
        case round =>
          clear HL7 HB7 HB6 HB5 HB4 HB2 HB1
          obtain ⟨i, rfl, hi, hk, pv, hv, HLI, HBI⟩ := hrel
          by_cases hlt : i < l.length
          · obtain ⟨ad, rfl, y0, y1, y2, y3⟩ := at_T40 (Kd.C_below HR.out HBI.out.fin) (i : Int) (by omega) (by omega)
            rw [Int.toNat_natCast] at y0 y1 y2 y3
            have hdr := rd_ev hlt
            obtain ⟨ev, hev⟩ : ∃ ev, ev = rd_T40 l (i : Int) := ⟨_, rfl⟩
            rw [← hev] at y0 y1 y2 y3 hdr
            have hgt : l[i]? = some ev := by
              have := congrArg List.head? hdr
              simpa [List.head?_drop] using this
            have hesz := HSZ.out ev (List.mem_of_getElem? hgt)
            have HRUN : Aside0 (runS t (l.take (i + 1)) = doS t (runS t (l.take i)) ev) := ⟨by rw [← runS_snoc, List.take_add_one, hgt]; rfl⟩
            obtain ⟨hl1, hl2⟩ := run_len t (l.take i)
            have hti : (l.take i).length ≤ i := List.length_take_le _ _
            have HDO := Aside0.mk (do_step HLI.out HBI.out (by omega) (by omega) ev (by omega))
            clear hev hdr hgt hesz hl1 hl2 hti
            have hic : i < c := by have := HC.out; omega
            go_wp2_with fail
            refine HDO.out.mono ?_
            rintro e w8 ⟨rfl, pv8, hv8, hL8, hb8⟩
            rw [← HRUN.out] at hL8
            have HB8 : Aside0 (Past w t w8) := ⟨hb8⟩
            have HL8 := Aside0.mk hL8
            clear hL8 hb8 y0 y1 y2 y3
            go_wp2_with fail
            go_roundg (l.length - i)
            case measure => omega
            case rel => exact ⟨i + 1, rfl, by omega, by omega, _, _, HL8, HB8⟩
          · obtain rfl : i = l.length := by omega
            clear hlt hk hi
            rw [List.take_length] at HLI
            obtain ⟨hl1, hl2⟩ := run_len t l
            have hhl : (runS t l).hist.length ≤ 1000 := by omega
            have HHI := Aside0.mk (history_any HLI.out hhl)
            have HTO := Aside0.mk (run_told t (may_apart HMT.out).2.2.2.2.2.2 l)
            have HBD := Aside0.mk (may_apart HMT.out).2.2.2.2.2.2
            have HHL := Aside0.mk hhl
            clear hl1 hl2 hhl
            go_wp2_with fail
            refine HHI.out.mono ?_
            rintro e w8 ⟨v8, rfl, hR8, hb8⟩
            have HL8 := Aside0.mk (HLI.out.below hb8)
            have HB8 := Aside0.mk (HBI.out.step hb8)
            obtain ⟨s, hsr⟩ : ∃ s, s = runS t l := ⟨_, rfl⟩
            rw [← hsr] at hR8 HHL HTO HL8
            obtain ⟨A8, c8, rfl, hc8, hr8⟩ := Kd.R_reads hR8
            have HR8 := Aside0.mk hr8
            have HC8 := Aside0.mk hc8
            obtain ⟨h, hh⟩ : ∃ h, h = s.hist := ⟨_, rfl⟩
            have HOK : Aside0 (Okay t h) := ⟨by rw [hh]; exact HTO.out.okay⟩
            have HEND : Aside0 ((scn t h).op = decide (s.st = 5) ∧ (scn t h).pd = sumD s.paid) := ⟨by rw [hh]; exact ⟨HTO.out.op, HTO.out.pd⟩⟩
            rw [← hh] at HR8 HC8 HHL ⊢
            clear hsr hR8 hb8 hr8 hc8 hh HHI HLI
            have hh1 := HHL.out
            have hh2 := HC8.out
            go_wp2_with fail
            go_loopg [9, 10, 11, 12] (h.length + 1) (fun kq pv nv ov v wr => ∃ k : Nat, v = .int .i64 k ∧ pv = .int .i64 (scn t (h.take k)).pd ∧ nv = .int .i64 (scn t (h.take k)).nw ∧ ov = .bool (scn t (h.take k)).op ∧ k ≤ h.length ∧ h.length < k + kq ∧ Aside0 (Below w8.heap.size w8 wr))
            case atStart => exact ⟨0, rfl, rfl, rfl, rfl, by omega, by omega, ⟨Below.refl _ _⟩⟩
            case round =>
              obtain ⟨k, rfl, rfl, rfl, rfl, hk4, hkk, HBV⟩ := hrel
              have HPV := Aside0.mk (HB8.out.step HBV.out)
              have HLV := Aside0.mk (HL8.out.below HBV.out)
              obtain ⟨x0, x1, x2, x3, x4, x5, x6, x7, x8⟩ := te_cells HPV.out.te
              by_cases hlt8 : k < h.length
              · obtain ⟨ad, rfl, y0, y1, y2, y3⟩ := at_T40 (Kd.C_below HR8.out HBV.out) (k : Int) (by omega) (by omega)
                rw [Int.toNat_natCast] at y0 y1 y2 y3
                have hdr := rd_ev hlt8
                obtain ⟨ev, hev⟩ : ∃ ev, ev = rd_T40 h (k : Int) := ⟨_, rfl⟩
                rw [← hev] at y0 y1 y2 y3 hdr
                have hgt : h[k]? = some ev := by
                  have := congrArg List.head? hdr
                  simpa [List.head?_drop] using this
                obtain ⟨hck, hbd⟩ := HOK.out k ev hgt
                have hst := scn_take (t := t) hgt
                clear hev hdr hgt
                generalize scn t (h.take k) = x at hck hbd hst ⊢
                obtain ⟨pd, nw, op⟩ := x
                obtain ⟨b1, b2, b3, b4⟩ := hbd
                simp only at b1 b2 b3 b4
                unfold chk at hck
                unfold stp at hst
                have hkc : k < c8 := by omega
                have HST := Aside0.mk hst
                have HCK := Aside0.mk hck
                clear hst hck x0 x2 x3 x4 x5 x6 x8
                obtain ⟨f0, f1, f2, f3⟩ := ev
                dsimp only at y0 y1 y2 y3 HST HCK ⊢
                by_cases e2 : f0 = 2
                · subst e2
                  have hck := HCK.out
                  simp only [if_true, Bool.and_eq_true, Bool.not_eq_true', decide_eq_false_iff_not] at hck
                  obtain ⟨rfl, hd0⟩ := hck
                  have hd : decide (t.exp < f2) = false := by simpa using hd0
                  go_wp2_with fail
                  go_quiet (fail)
                  go_wp2_with fail
                  go_roundg (gk - 1)
                  case measure => omega
                  case rel => exact ⟨k + 1, rfl, by rw [HST.out]; simp, by rw [HST.out]; simp, by rw [HST.out]; simp, by omega, by omega, ⟨pw_below_drewN HBV.out _⟩⟩
                · by_cases e5 : f0 = 5
                  · subst e5
                    go_wp2_with fail
                    go_roundg (gk - 1)
                    case measure => omega
                    case rel => exact ⟨k + 1, rfl, by rw [HST.out]; simp, by rw [HST.out]; simp, by rw [HST.out]; simp, by omega, by omega, HBV⟩
                  · by_cases e6 : f0 = 6
                    · subst e6
                      have hck := HCK.out
                      simp at hck
                      obtain rfl := hck
                      by_cases ha : f1 = t.app
                      · have hd : (f1.toList == t.app.toList) = true := by simp [ha]
                        go_wp2_with fail
                        go_quiet (fail)
                        go_wp2_with fail
                        go_roundg (gk - 1)
                        case measure => omega
                        case rel => exact ⟨k + 1, rfl, by rw [HST.out]; simp [ha], by rw [HST.out]; simp [ha], by rw [HST.out]; simp [ha], by omega, by omega, ⟨pw_below_drewN HBV.out _⟩⟩
                      · have hd : (f1.toList == t.app.toList) = false := by
                          have : ¬ f1.toList = t.app.toList := fun e => ha (bytes_inj e)
                          simpa using this
                        go_wp2_with fail
                        go_quiet (fail)
                        go_wp2_with fail
                        go_roundg (gk - 1)
                        case measure => omega
                        case rel => exact ⟨k + 1, rfl, by rw [HST.out]; simp [ha], by rw [HST.out]; simp [ha], by rw [HST.out]; simp [ha], by omega, by omega, ⟨pw_below_drewN HBV.out _⟩⟩
                    · by_cases e7 : f0 = 7
                      · subst e7
                        have hck := HCK.out
                        simp only [Bool.and_eq_true, Bool.not_eq_true', decide_eq_true_eq] at hck
                        have hck2 : (op = false ∧ k + 1 = h.length) ∧ t.exp < f2 := by simpa using hck
                        obtain ⟨⟨rfl, hla⟩, hd0⟩ := hck2
                        clear hck
                        have hd : decide (f2 ≤ t.exp) = false := by simpa using hd0
                        have hwr : IntKind.i64.wrap ((h.length : Int) - 1) = (k : Int) := by
                          rw [IntWalk.i64_in _ (by omega)]; omega
                        go_wp2_with fail
                        go_quiet (fail)
                        clear hwr
                        go_wp2_with fail
                        go_roundg (gk - 1)
                        case measure => omega
                        case rel => exact ⟨k + 1, rfl, by rw [HST.out]; simp, by rw [HST.out]; simp, by rw [HST.out]; simp, by omega, by omega, ⟨pw_below_drewN HBV.out _⟩⟩
                      · have e2b : (f0 == 2) = false := by simpa using e2
                        have e5b : (f0 == 5) = false := by simpa using e5
                        have e6b : (f0 == 6) = false := by simpa using e6
                        have e7b : (f0 == 7) = false := by simpa using e7
                        go_wp2_with fail
                        go_roundg (gk - 1)
                        case measure => omega
                        case rel => exact ⟨k + 1, rfl, by rw [HST.out]; simp [e2, e5, e6], by rw [HST.out]; simp [e2, e5, e6], by rw [HST.out]; simp [e2, e5, e6], by omega, by omega, HBV⟩
              · obtain rfl : k = h.length := by omega
                rw [List.take_length]
                obtain ⟨hop, hpd⟩ := HEND.out
                have hmo := HTO.out.most
                have hpo := HTO.out.pos
                have hda : 0 ≤ (if s.st = 2 ∨ s.st = 4 then s.da else 0) := by
                  split
                  · rename_i hh
                    have hsn := HTO.out.nw hh
                    have hb := HTO.out.bnd.2.2.1
                    omega
                  · omega
                generalize scn t h = x at hop hpd ⊢
                obtain ⟨pd, nw, op⟩ := x
                dsimp only at hop hpd ⊢
                have hle : pd ≤ mostI t := by omega
                have hle2 : decide (pd ≤ mostI t) = true := by simpa using hle
                have HMS := Aside0.mk (fun W => rmost_any t W HBD.out)
                have HCR := Aside0.mk (fun W => credit_any t W)
                have HOP := Aside0.mk hop
                clear hmo hpo hda hpd hkk hk4 hlt8 hop
                go_wp2_with fail
                refine (HCR.out _).mono ?_
                rintro e w9 ⟨rfl, hb9⟩
                have HB9 := Aside0.mk hb9
                clear hb9
                go_wp2_with fail
                refine (HMS.out _).mono ?_
                rintro e w10 ⟨rfl, hb10⟩
                have HP10 := Aside0.mk ((HPV.out.step HB9.out).step hb10)
                have HL10 := Aside0.mk ((HLV.out.below HB9.out).below hb10)
                have HSTA := Aside0.mk (state_any HL10.out)
                clear hb10
                by_cases q5 : s.st = 5
                · rw [q5] at HSTA
                  obtain rfl : op = true := by rw [HOP.out]; simpa using q5
                  clear q5
                  go_wp2_with (go_at_call 16; refine (HSTA.out).mono ?_; rintro e w' ⟨rfl, rfl⟩)
                  go_ret
                  exact ⟨rfl, HP10.out.fin⟩
                · obtain rfl : op = false := by rw [HOP.out]; simpa using q5
                  obtain ⟨st, hst⟩ : ∃ st, st = s.st := ⟨_, rfl⟩
                  rw [← hst] at HSTA q5
                  clear hst
                  have q5b : (st == 5) = false := by simpa using q5
                  go_wp2_with (go_at_call 16; refine (HSTA.out).mono ?_; rintro e w' ⟨rfl, rfl⟩)
                  go_ret
                  exact ⟨rfl, HP10.out.fin⟩
end Go.Proofs.Ytcefdhlmpgdajaa
