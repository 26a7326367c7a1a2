/- The law UndertakeOwes, walked: it tells true. Conditions: texts and rows as a machine can hold. -/
import Derived.Test.YthimmaffoehfaaaPureU
set_option linter.unusedVariables false
set_option linter.unusedSimpArgs false
set_option linter.unusedSectionVars false
namespace Go.Proofs.Ythimmaffoehfaaa
open Go.RowKit Go.Proofs.YthimmaffoehfaaaW.PrintWords Go.Proofs.YthimmaffoehfaaaW.PrintLast Go.Proofs.YthimmaffoehfaaaW.PrintMore
open Q

theorem te_range {w : World} {g : Nat} {t : Tm} (h : w.heap[g]? = some (teO t)) : w.rangeAt g 0 (teCells t).toList := by
  intro j v hj
  rw [Array.getElem?_toList] at hj
  simp only [World.cell?, h, Nat.zero_add]
  exact hj
def TeAt (w : World) (b : Nat) (t : Tm) : Prop := w.heap[b]? = some (teO t)
theorem te_cells {w : World} {g : Nat} {t : Tm} (h : w.heap[g]? = some (teO t)) : w.cell? ⟨g, 0, none⟩ = some (.string t.iss) ∧ w.cell? ⟨g, 1, none⟩ = some (.string t.app) ∧ w.cell? ⟨g, 2, none⟩ = some (.string t.ben) ∧ w.cell? ⟨g, 3, none⟩ = some (.string t.cnf) ∧ w.cell? ⟨g, 4, none⟩ = some (.int .i64 t.sum) ∧ w.cell? ⟨g, 5, none⟩ = some (.int .i64 t.abv) ∧ w.cell? ⟨g, 6, none⟩ = some (.int .i64 t.blw) ∧ w.cell? ⟨g, 7, none⟩ = some (.int .i64 t.exp) ∧ w.cell? ⟨g, 8, none⟩ = some (.bool t.prt) := by
  refine ⟨?_, ?_, ?_, ?_, ?_, ?_, ?_, ?_, ?_⟩ <;> simp [World.cell?, h]

/-- Behind the law's own box of the terms. -/
def Past (w : World) (t : Tm) (W : World) : Prop := Below (w.heap.size + 1) (w.alloc (teO t)) W
theorem Past.fin {w W : World} {t : Tm} (h : Past w t W) : Below w.heap.size w W := ((Below.refl w.heap.size w).alloc (Nat.le_refl _) (teO t)).trans (Below.mono h (by omega))
theorem Past.te {w W : World} {t : Tm} (h : Past w t W) : W.heap[w.heap.size]? = some (teO t) := (Below.block h _ (by omega)).trans (heap_alloc_new w (teO t))
theorem Past.size {w W : World} {t : Tm} (h : Past w t W) : w.heap.size + 1 ≤ W.heap.size := by have := Below.size h; simpa using this
theorem Past.step {w W W2 : World} {t : Tm} (h : Past w t W) (hb : Below W.heap.size W W2) : Past w t W2 := Below.trans h (hb.mono h.size)
theorem Past.draw {w W : World} {t : Tm} (h : Past w t W) (n : Nat) : Past w t (W.drewN n) := pw_below_drewN h n
theorem Past.start (w : World) (t : Tm) : Past w t (w.alloc (teO t)) := Below.refl _ _
def fourT (t : Tm) : List ByteArray := [t.iss, t.app, t.ben, t.cnf]
theorem cnt_snoc (t : Tm) (s : LS) (l : List ByteArray) (p : ByteArray) : cnt t s (l ++ [p]) = cnt t s l + if owesB t s p = true then 1 else 0 := by
  unfold cnt
  rw [List.filter_append]
  cases h : owesB t s p <;> simp [h]
theorem cnt_le (t : Tm) (s : LS) (l : List ByteArray) : 0 ≤ cnt t s l ∧ cnt t s l ≤ l.length := by
  unfold cnt
  have := List.length_filter_le (fun p => owesB t s p) l
  omega
theorem owes_sane {t : Tm} {s : LS} {p : ByteArray} (h : Sane t s) (ho : owesB t s p = true) : 1 ≤ s.da ∧ s.da ≤ mostI t := by
  apply h
  unfold owesB at ho
  simp only [Bool.or_eq_true, Bool.and_eq_true, beq_iff_eq] at ho
  omega

set_option maxRecDepth 100000 in
set_option maxHeartbeats 2000000 in
theorem owes_walk (t : Tm) (A : Option Addr) (c : Nat) (l : List S40) (w : World) (hs : Named t) (hr : Kd.C k40 w A l.length l) (hc : l.length ≤ c) :
    Calls Try.prog 3 #[.agg (teCells t), .slice A l.length c] w fun e w' => e = .returned (.bool true) ∧ Below w.heap.size w w' := by
  have HB0 := Aside0.mk (Past.start w t)
  have HR := Aside0.mk hr
  have HC := Aside0.mk hc
  have HNM := Aside0.mk hs
  clear hr hc hs
  go_enter Try.func3, Try.ntmps3
  go_wp2_with fail
  refine (awake_any _).mono ?_
  rintro e w1 ⟨rfl, hb1⟩
  have HB1 := Aside0.mk (HB0.out.step hb1)
  have ht1 := HB1.out.te
  have HLO := Aside0.mk (long_any t)
  have HHE := Aside0.mk (fun (W : World) (hb : Below w.heap.size w W) => heavy_any A c l 40 W (Kd.C_below HR.out hb) HC.out (by omega))
  have HMY := Aside0.mk (fun W => rmay_any t W HNM.out)
  obtain ⟨q0, q1, q2, q3, q4, q5, q6, q7, q8⟩ := te_cells ht1
  clear hb1 ht1
  cases hlo : longB t with
  | true =>
    rw [hlo] at HLO
    clear hlo
    go_wp2_with (go_at_call 8; refine (HLO.out _).mono ?_; rintro e w2 ⟨rfl, hb2⟩; have HB2 := Aside0.mk (HB1.out.step hb2); clear hb2)
    go_ret
    exact ⟨rfl, HB2.out.fin⟩
  | false =>
    rw [hlo] at HLO
    have HLF := Aside0.mk hlo
    clear hlo
    cases hhe : heavyB l 40 with
    | true =>
      rw [hhe] at HHE
      clear hhe
      go_wp2_with (first
        | (go_at_call 8; refine (HLO.out _).mono ?_; rintro e w2 ⟨rfl, hb2⟩; have HB2 := Aside0.mk (HB1.out.step hb2); clear hb2)
        | (go_at_call 9; refine (HHE.out _ HB2.out.fin).mono ?_; rintro e w3 ⟨rfl, q, rfl⟩))
      go_ret
      exact ⟨rfl, (HB2.out.draw _).fin⟩
    | false =>
      rw [hhe] at HHE
      have HHF := Aside0.mk hhe
      clear hhe
      cases hmy : mayB t with
      | false =>
        rw [hmy] at HMY
        clear hmy
        go_wp2_with (first
          | (go_at_call 8; refine (HLO.out _).mono ?_; rintro e w2 ⟨rfl, hb2⟩; have HB2 := Aside0.mk (HB1.out.step hb2); obtain ⟨u0, u1, u2, u3, u4, u5, u6, u7, u8⟩ := te_cells HB2.out.te; clear hb2)
          | (go_at_call 9; refine (HHE.out _ HB2.out.fin).mono ?_; rintro e w3 ⟨rfl, q, rfl⟩)
          | (go_at_call 11; refine (credit_any t _).mono ?_; rintro e w4 ⟨rfl, hb4⟩; have HB4 := Aside0.mk ((HB2.out.draw q).step hb4); clear hb4)
          | (go_at_call 10; refine (HMY.out _).mono ?_; rintro e w5 ⟨rfl, hb5⟩; have HB5 := Aside0.mk (HB4.out.step hb5); clear hb5))
        go_ret
        exact ⟨rfl, HB5.out.fin⟩
      | true =>
        rw [hmy] at HMY
        have HMT := Aside0.mk hmy
        clear hmy
        have HNW := Aside0.mk (fun W => new_any t W HNM.out HMT.out)
        go_wp2_with (first
          | (go_at_call 8; refine (HLO.out _).mono ?_; rintro e w2 ⟨rfl, hb2⟩; have HB2 := Aside0.mk (HB1.out.step hb2); obtain ⟨u0, u1, u2, u3, u4, u5, u6, u7, u8⟩ := te_cells HB2.out.te; clear hb2)
          | (go_at_call 9; refine (HHE.out _ HB2.out.fin).mono ?_; rintro e w3 ⟨rfl, q, rfl⟩))
        refine (credit_any t _).mono ?_
        rintro e w4 ⟨rfl, hb4⟩
        have HB4 := Aside0.mk ((HB2.out.draw q).step hb4)
        clear hb4
        go_wp2_with fail
        refine (HMY.out _).mono ?_
        rintro e w5 ⟨rfl, hb5⟩
        have HB5 := Aside0.mk (HB4.out.step hb5)
        obtain ⟨x0, x1, x2, x3, x4, x5, x6, x7, x8⟩ := te_cells HB5.out.te
        clear hb5 q0 q1 q2 q3 q4 q5 q6 q7 q8 u0 u1 u2 u3 u4 u5 u6 u7 u8
        go_wp2_with fail
        refine (credit_any t _).mono ?_
        rintro e w6 ⟨rfl, hb6⟩
        have HB6 := Aside0.mk (HB5.out.step hb6)
        clear hb6
        go_wp2_with fail
        refine (HNW.out _).mono ?_
        rintro e w7 ⟨g, rfl, hL7, hb7⟩
        have HB7 := Aside0.mk (HB6.out.step hb7)
        have HL7 := Aside0.mk hL7
        have hlen : l.length ≤ 40 ∧ ∀ x ∈ l, x.f1.size ≤ 100 := by
          have := HHF.out
          simp only [heavyB, Bool.or_eq_false_iff, decide_eq_false_iff_not, List.any_eq_false, decide_eq_true_eq] at this
          exact ⟨by omega, fun x hx => by have := this.2 x hx; omega⟩
        have hl40 := hlen.1
        have HSZ := Aside0.mk hlen.2
        have HW6 := Aside0.mk HB6.out.size
        clear hL7 hb7 hlen x0 x1 x2 x3 x4 x5 x6 x7 x8
        go_wp2_with fail
        go_loopg [7] (l.length + 1) (fun kq v wr => ∃ i : Nat, v = .int .i64 i ∧ i ≤ l.length ∧ l.length < i + kq ∧ ∃ pv hv, Aside0 (LifeAt wr (w.heap.size + 1) g t (runS t (l.take i)) pv hv) ∧ Aside0 (Past w t wr))
        case atStart => exact ⟨0, rfl, Nat.zero_le _, by omega, _, _, ⟨HL7.out.lower HW6.out⟩, HB7⟩
        case round =>
          clear HL7 HB7 HB6 HB5 HB4 HB2 HB1
          obtain ⟨i, rfl, hi, hk, pv, hv, HLI, HBI⟩ := hrel
          by_cases hlt : i < l.length
          · obtain ⟨ad, rfl, y0, y1, y2, y3⟩ := at_T40 (Kd.C_below HR.out HBI.out.fin) (i : Int) (by omega) (by omega)
            rw [Int.toNat_natCast] at y0 y1 y2 y3
            have hdr := rd_ev hlt
            obtain ⟨ev, hev⟩ : ∃ ev, ev = rd_T40 l (i : Int) := ⟨_, rfl⟩
            rw [← hev] at y0 y1 y2 y3 hdr
            have hgt : l[i]? = some ev := by
              have := congrArg List.head? hdr
              simpa [List.head?_drop] using this
            have hesz := HSZ.out ev (List.mem_of_getElem? hgt)
            have HRUN : Aside0 (runS t (l.take (i + 1)) = doS t (runS t (l.take i)) ev) := ⟨by rw [← runS_snoc, List.take_add_one, hgt]; rfl⟩
            obtain ⟨hl1, hl2⟩ := run_len t (l.take i)
            have hti : (l.take i).length ≤ i := List.length_take_le _ _
            have HDO := Aside0.mk (do_step HLI.out HBI.out (by omega) (by omega) ev (by omega))
            clear hev hdr hgt hesz hl1 hl2 hti
            have hic : i < c := by have := HC.out; omega
            go_wp2_with fail
            refine HDO.out.mono ?_
            rintro e w8 ⟨rfl, pv8, hv8, hL8, hb8⟩
            rw [← HRUN.out] at hL8
            obtain ⟨s, hsr⟩ : ∃ s, s = runS t (l.take (i + 1)) := ⟨_, rfl⟩
            rw [← hsr] at hL8
            have HSN : Aside0 (Sane t s) := ⟨by rw [hsr]; exact run_sane t _⟩
            have HSR := Aside0.mk hsr
            have HB8 : Aside0 (Past w t w8) := ⟨hb8⟩
            have HL8 := Aside0.mk hL8
            obtain ⟨x0, x1, x2, x3, x4, x5, x6, x7, x8⟩ := te_cells HB8.out.te
            have hw8 := HB8.out.size
            clear hL8 hb8 hsr y0 y1 y2 y3
            go_wp2_with fail
            have h4 : (w8.alloc (.cells #[.string t.iss, .string t.app, .string t.ben, .string t.cnf] 9)).heap[w8.heap.size]? = some (.cells (((fourT t).map Value.string).toArray ++ #[]) 9) := heap_alloc_new _ _
            have HLW := Aside0.mk (HL8.out.turn (w' := w8) (.cells #[.string t.iss, .string t.app, .string t.ben, .string t.cnf] 9))
            have HBW := Aside0.mk (HB8.out.step ((Below.refl w8.heap.size w8).alloc (Nat.le_refl _) (.cells #[.string t.iss, .string t.app, .string t.ben, .string t.cnf] 9)))
            have HFR := Aside0.mk (texts_in (fourT t) #[] (by simp [fourT]) h4)
            clear h4 x0 x1 x2 x3 x4 x5 x6 x7 x8
            generalize w8.alloc (.cells #[.string t.iss, .string t.app, .string t.ben, .string t.cnf] 9) = W2 at HLW HBW HFR ⊢
            have hcf := may_apart HMT.out
            have HBD := Aside0.mk hcf.2.2.2.2.2.2
            have HMS := Aside0.mk (fun W => rmost_any t W HBD.out)
            have HCR := Aside0.mk (fun W => credit_any t W)
            clear hcf
            go_loopg [9, 10] 5 (fun kq n v wr => ∃ k : Nat, v = .int .i64 k ∧ n = .int .i64 (cnt t s ((fourT t).take k)) ∧ k ≤ 4 ∧ 4 < k + kq ∧ Aside0 (Below W2.heap.size W2 wr))
            case atStart => exact ⟨0, rfl, rfl, by omega, by omega, ⟨Below.refl _ _⟩⟩
            case round =>
              obtain ⟨k, rfl, rfl, hk4, hkk, HBV⟩ := hrel
              obtain ⟨hc0, hc1⟩ := cnt_le t s ((fourT t).take k)
              have hck : ((fourT t).take k).length ≤ k := List.length_take_le _ _
              obtain ⟨nn, hnn⟩ : ∃ nn, nn = cnt t s ((fourT t).take k) := ⟨_, rfl⟩
              rw [← hnn] at hc0 hc1 ⊢
              have HNN := Aside0.mk hnn
              clear hnn
              have HPV := Aside0.mk (HBW.out.step HBV.out)
              have HLV := Aside0.mk (HLW.out.below HBV.out)
              by_cases hlt4 : k < 4
              · obtain ⟨ad4, had, hx⟩ := Kd.at_string (Kd.C_below HFR.out HBV.out) (k : Int) (by omega) (by simp [fourT]; omega)
                rw [Int.toNat_natCast] at hx
                have hdr := rd_text (l := fourT t) (i := k) (by simp [fourT]; omega)
                obtain ⟨p, hp⟩ : ∃ p, p = rdOf ByteArray.empty (fourT t) (k : Int) := ⟨_, rfl⟩
                rw [← hp] at hx hdr
                have hgt : (fourT t)[k]? = some p := by
                  have := congrArg List.head? hdr
                  simpa [List.head?_drop] using this
                have had4 : ad4 = ⟨w8.heap.size, 0, none⟩ := by injection had with h; exact h.symm
                have head : (⟨w8.heap.size, 0, none⟩ : Addr).add k = ⟨w8.heap.size, k, none⟩ := by simp [add_plain]
                rw [had4, head] at hx
                have HTK : Aside0 (cnt t s ((fourT t).take (k + 1)) = nn + if owesB t s p = true then 1 else 0) := ⟨by rw [List.take_add_one, hgt, HNN.out]; exact cnt_snoc t s _ p⟩
                have HOW := Aside0.mk (owes_any HLV.out p)
                clear hp hdr hgt had had4 head
                obtain ⟨o, ho⟩ : ∃ o, o = owesB t s p := ⟨_, rfl⟩
                rw [← ho] at HOW HTK
                have HOO := Aside0.mk ho
                clear ho
                cases o with
                | false =>
                  go_wp2_with (go_at_call 14; refine (HOW.out).mono ?_; rintro e w' ⟨rfl, rfl⟩)
                  go_roundg (gk - 1)
                  case measure => omega
                  case rel => exact ⟨k + 1, rfl, by rw [HTK.out]; first | rfl | simp, by omega, by omega, HBV⟩
                | true =>
                  obtain ⟨hd1, hd2⟩ := owes_sane HSN.out HOO.out.symm
                  obtain ⟨x0, x1, x2, x3, x4, x5, x6, x7, x8⟩ := te_cells HPV.out.te
                  go_wp2_with (first
                    | (go_at_call 14; refine (HOW.out).mono ?_; rintro e w' ⟨rfl, rfl⟩)
                    | (go_at_call 11; refine (HCR.out _).mono ?_; rintro e w9 ⟨rfl, hb9⟩; have HB9 := Aside0.mk hb9; clear hb9)
                    | (go_at_call 15; refine (HMS.out _).mono ?_; rintro e w10 ⟨rfl, hb10⟩; have HB10 := Aside0.mk hb10; clear hb10))
                  go_roundg (gk - 1)
                  case measure => omega
                  case rel => exact ⟨k + 1, rfl, by rw [HTK.out]; first | rfl | simp, by omega, by omega, ⟨HBV.out.trans ((HB9.out.trans (HB10.out.mono HB9.out.size)).mono HBV.out.size)⟩⟩
              · have hk : k = 4 := by omega
                have HN4 : Aside0 (nn = if s.st = 4 ∨ s.st = 5 then 1 else 0) := ⟨by
                  rw [HNN.out, hk]
                  exact owes_count HMT.out⟩
                clear hk
                have HSTA := Aside0.mk (state_any HLV.out)
                by_cases q4 : s.st = 4
                · obtain rfl : nn = 1 := by rw [HN4.out, if_pos (.inl q4)]
                  rw [q4] at HSTA
                  clear q4
                  go_wp2_with (go_at_call 16; refine (HSTA.out).mono ?_; rintro e w' ⟨rfl, rfl⟩)
                  go_roundg (l.length - i)
                  case measure => omega
                  case rel => exact ⟨i + 1, rfl, by omega, by omega, _, _, ⟨by rw [← HSR.out]; exact HLV.out⟩, HPV⟩
                · by_cases q5 : s.st = 5
                  · obtain rfl : nn = 1 := by rw [HN4.out, if_pos (.inr q5)]
                    rw [q5] at HSTA
                    clear q4 q5
                    go_wp2_with (go_at_call 16; refine (HSTA.out).mono ?_; rintro e w' ⟨rfl, rfl⟩)
                    go_roundg (l.length - i)
                    case measure => omega
                    case rel => exact ⟨i + 1, rfl, by omega, by omega, _, _, ⟨by rw [← HSR.out]; exact HLV.out⟩, HPV⟩
                  · obtain rfl : nn = 0 := by rw [HN4.out, if_neg (by omega)]
                    obtain ⟨st, hst⟩ : ∃ st, st = s.st := ⟨_, rfl⟩
                    rw [← hst] at HSTA q4 q5
                    clear hst
                    have q4b : (st == 4) = false := by simpa using q4
                    have q5b : (st == 5) = false := by simpa using q5
                    go_wp2_with (go_at_call 16; refine (HSTA.out).mono ?_; rintro e w' ⟨rfl, rfl⟩)
                    go_roundg (l.length - i)
                    case measure => omega
                    case rel => exact ⟨i + 1, rfl, by omega, by omega, _, _, ⟨by rw [← HSR.out]; exact HLV.out⟩, HPV⟩
          · go_wp2
            go_ret
            exact ⟨rfl, HBI.out.fin⟩
end Go.Proofs.Ythimmaffoehfaaa
