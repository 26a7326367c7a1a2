/- What somebody has: a chain's boxes, those of others struck out. Conditions: rows of at most a million. -/
import Derived.Test.YtonnhdffjbpgnaaBoxes
import Derived.Test.YtonnhdffjbpgnaaMore
import Derived.Lib.SliceRun
import Derived.Laws.IdiomCopy
set_option linter.unusedVariables false
set_option linter.unusedSimpArgs false
set_option linter.unusedSectionVars false
namespace Go.Proofs.Ytonnhdffjbpgnaa
open Go.RowKit Go.Proofs.YtonnhdffjbpgnaaW.PrintWords Go.Proofs.YtonnhdffjbpgnaaW.PrintLast Go.Proofs.YtonnhdffjbpgnaaW.PrintMore
open Q

/-- Is a box another one's? -/
def delB (M : List (ByteArray × List S41)) (who box : ByteArray) : Bool := !((asP (hget M box) 1048576).1.toList == who.toList)

theorem pick_any (B : Nat) (ok : Nat → Prop) (p r : Nat) (E : List BoxRow) (b1 b2 : Nat) (who box : ByteArray) (w : World) (hC : ChainAt w B ok p E r) (h1 : w.cell? ⟨b1, 0, none⟩ = some (.pointer (some ⟨p, 0, none⟩))) (h2 : w.cell? ⟨b2, 0, none⟩ = some (.string who)) :
    Calls Try.prog 39 #[.string box, .pointer (some ⟨b1, 0, none⟩), .pointer (some ⟨b2, 0, none⟩)] w fun e w' => e = .returned (.bool (delB (hands E) who box)) ∧ Below w.heap.size w w' := by
  have key : ∀ b, b = delB (hands E) who box → Ending.returned (.bool b) = Ending.returned (.bool (delB (hands E) who box)) := fun b h => by rw [h]
  have HC := Aside0.mk hC
  clear hC
  go_enter Try.func39, Try.ntmps39
  go_wp2_with fail
  refine (now_any B ok p r E box w HC.out).mono ?_
  rintro e w1 ⟨rfl, hb⟩
  have HB := Aside0.mk hb
  replace h2 := (hb.cell (World.block_lt_of_cell? w _ h2)).trans h2
  clear hb
  go_wp2
  go_ret
  exact ⟨key _ rfl, HB.out⟩

theorem index_held (B : Nat) (ok : Nat → Prop) (p r : Nat) (E : List BoxRow) (b1 b2 : Nat) (who : ByteArray) (A : Option Addr) (c : Nat) (xs : List ByteArray) (w : World) (hr : Kd.C Kd.string w A xs.length xs) (hC : ChainAt w B ok p E r) (h1 : w.cell? ⟨b1, 0, none⟩ = some (.pointer (some ⟨p, 0, none⟩))) (h2 : w.cell? ⟨b2, 0, none⟩ = some (.string who)) :
    Calls Try.prog 50 #[.slice A xs.length c, .func (.func 39) #[] #[.pointer (some ⟨b1, 0, none⟩), .pointer (some ⟨b2, 0, none⟩)]] w fun e w' => ∃ n : Int, e = .returned (.int .i64 n) ∧
      ((n = -1 ∧ xs.all (fun x => !delB (hands E) who x) = true) ∨ ∃ i : Nat, n = i ∧ i < xs.length ∧ (xs.take i).all (fun x => !delB (hands E) who x) = true ∧ delB (hands E) who (rdOf ByteArray.empty xs i) = true) ∧ Below w.heap.size w w' := by
  have HR := Aside0.mk hr
  have HC := Aside0.mk hC
  have H1 := Aside0.mk h1
  have H2 := Aside0.mk h2
  have hlen : xs.length ≤ 9223372036854775807 := hr.2.1
  clear hr hC h1 h2
  go_enter Try.func50, Try.ntmps50
  go_wp2
  go_loopg [8] (xs.length + 1) (fun kq v wr => ∃ i : Nat, v = .int .i64 i ∧ i ≤ xs.length ∧ xs.length < i + kq ∧ Aside0 ((xs.take i).all (fun x => !delB (hands E) who x) = true) ∧ Aside0 (Below w.heap.size w wr))
  case atStart => exact ⟨0, rfl, Nat.zero_le _, by omega, ⟨by simp⟩, ⟨Below.refl _ _⟩⟩
  case round =>
    obtain ⟨i, rfl, hi, hk, HI, HB⟩ := hrel
    by_cases hlt : i < xs.length
    · obtain ⟨ad, rfl, hx⟩ := Kd.at_string HR.out i (by omega) (by omega)
      replace hx := (HB.out.cell (World.block_lt_of_cell? w _ hx)).trans hx
      rw [Int.toNat_natCast] at hx
      have hdr := rd_bytes hlt
      obtain ⟨s, hsd⟩ : ∃ s, s = rdOf ByteArray.empty xs (i : Int) := ⟨_, rfl⟩
      rw [← hsd] at hx hdr
      have HS := Aside0.mk hsd
      have HT : Aside0 (xs.take (i + 1) = xs.take i ++ [s]) := ⟨by
        have h9 : xs[i]? = some s := by
          have := congrArg List.head? hdr
          simpa [List.head?_drop] using this
        rw [List.take_add_one, h9]
        rfl⟩
      clear hsd hdr
      have hc1 := Aside0.mk ((HB.out.cell (World.block_lt_of_cell? w _ H1.out)).trans H1.out)
      have hc2 := Aside0.mk ((HB.out.cell (World.block_lt_of_cell? w _ H2.out)).trans H2.out)
      have HCr := Aside0.mk (HC.out.below HB.out)
      go_wp2_with fail
      refine (pick_any B ok p r E b1 b2 who s wr HCr.out hc1.out hc2.out).mono ?_
      rintro e w2 ⟨rfl, hb⟩
      have HB2 := Aside0.mk (HB.out.trans (hb.mono HB.out.size))
      clear hb
      cases hd : delB (hands E) who s with
      | true =>
        go_wp2
        go_ret
        exact ⟨i, rfl, .inr ⟨i, rfl, hlt, HI.out, by rw [← HS.out]; exact hd⟩, HB2.out⟩
      | false =>
        have HI2 : Aside0 ((xs.take (i + 1)).all (fun x => !delB (hands E) who x) = true) := ⟨by rw [HT.out, List.all_append, HI.out]; simp [hd]⟩
        clear hd
        go_wp2
        go_roundg (gk - 1)
        case measure => omega
        case rel => exact ⟨i + 1, by go_num, by omega, by omega, HI2, HB2⟩
    · have HA : Aside0 (xs.all (fun x => !delB (hands E) who x) = true) := ⟨by
        have h9 : i = xs.length := by omega
        have := HI.out
        rw [h9, List.take_length] at this
        exact this⟩
      go_wp2
      go_ret
      exact ⟨-1, rfl, .inl ⟨rfl, HA.out⟩, HB.out⟩

theorem zero9 (w : World) : (zeroValue 9).run Try.prog w = .ok (.string ⟨#[]⟩) w := by kernel_rfl

theorem kept_first {q : ByteArray → Bool} {xs : List ByteArray} {i : Nat} (hi : i < xs.length) (h1 : (xs.take i).all (fun x => !q x) = true) (h2 : q (rdOf ByteArray.empty xs i) = true) : (xs.take (i + 1)).filter (fun x => !q x) = xs.take i := by
  have hg : xs[i]? = some (rdOf ByteArray.empty xs (i : Int)) := by
    unfold rdOf
    rw [Int.toNat_natCast, List.getD_eq_getElem?_getD, List.getElem?_eq_getElem hi]
    rfl
  rw [List.take_add_one, hg, List.filter_append]
  have : (xs.take i).filter (fun x => !q x) = xs.take i := List.filter_eq_self.2 fun x hx => List.all_eq_true.1 h1 x hx
  rw [this]
  simp [h2]
theorem kept_step {q : ByteArray → Bool} {xs : List ByteArray} {i : Nat} {s : ByteArray} (hs : s = rdOf ByteArray.empty xs (i : Int)) (hi : i < xs.length) : (xs.take (i + 1)).filter (fun x => !q x) = (xs.take i).filter (fun x => !q x) ++ (if q s then [] else [s]) := by
  have hg : xs[i]? = some s := by
    rw [hs]
    unfold rdOf
    rw [Int.toNat_natCast, List.getD_eq_getElem?_getD, List.getElem?_eq_getElem hi]
    rfl
  rw [List.take_add_one, hg, List.filter_append]
  congr 1
  cases h : q s <;> simp [h]

set_option maxRecDepth 100000 in
theorem delete_held (B S0 : Nat) (ok : Nat → Prop) (p r : Nat) (E : List BoxRow) (b1 b2 : Nat) (who : ByteArray) (v : Value) (xs : List ByteArray) (w : World) (hR : Kd.R Kd.string 9 w S0 (fun _ => True) v xs) (hC : ChainAt w B ok p E r) (hok : ∀ k, ok k → k < S0) (hb1 : b1 < S0) (hb2 : b2 < S0)
    (h1 : w.cell? ⟨b1, 0, none⟩ = some (.pointer (some ⟨p, 0, none⟩))) (h2 : w.cell? ⟨b2, 0, none⟩ = some (.string who)) (hl : xs.length ≤ 1000000) (hS : S0 ≤ w.heap.size) :
    Calls Try.prog 38 #[v, .func (.func 39) #[] #[.pointer (some ⟨b1, 0, none⟩), .pointer (some ⟨b2, 0, none⟩)]] w fun e w' => ∃ A c ys, e = .returned (.slice A ys.length c) ∧ ys = xs.filter (fun x => !delB (hands E) who x) ∧
      ys.length ≤ c ∧ Kd.C Kd.string w' A ys.length ys ∧ Below S0 w w' := by
  obtain ⟨A, c, rfl, hlc, hrd⟩ := Kd.R_reads hR
  have HR := Aside0.mk hR
  have HRD := Aside0.mk hrd
  have HC := Aside0.mk hC
  have HOK := Aside0.mk hok
  have H1 := Aside0.mk h1
  have H2 := Aside0.mk h2
  have HL := Aside0.mk hl
  have HLC := Aside0.mk hlc
  have HS := Aside0.mk hS
  clear hR hC hok h1 h2 hl hlc hrd hS
  go_enter Try.func38, Try.ntmps38
  go_wp2_with fail
  refine (index_held B ok p r E b1 b2 who A c xs w HRD.out HC.out H1.out H2.out).mono ?_
  rintro e w1 ⟨n, rfl, hn, hb1'⟩
  have HB1 := Aside0.mk hb1'
  clear hb1'
  rcases hn with ⟨rfl, hall⟩ | ⟨k0, rfl, hk0, hpre, hdel⟩
  · have HF : Aside0 (xs.filter (fun x => !delB (hands E) who x) = xs) := ⟨List.filter_eq_self.2 fun x hx => List.all_eq_true.1 hall x hx⟩
    clear hall
    go_wp2
    go_ret
    exact ⟨A, c, xs, rfl, HF.out.symm, HLC.out, Kd.C_below HRD.out HB1.out, HB1.out.mono HS.out⟩
  · have hne : (((k0 : Nat) : Int) == -1) = false := beq_eq_false_iff_ne.2 (by omega)
    have HF0 := Aside0.mk (kept_first hk0 hpre hdel)
    obtain ⟨ad, rfl, _⟩ := Kd.at_string HRD.out (k0 : Int) (by omega) (by omega)
    obtain ⟨g, hg⟩ : ∃ g, ad = ⟨g, 0, none⟩ := by
      obtain ⟨_, inner, ho, _⟩ := HR.out
      rcases ho.2 with ⟨h, _⟩ | ⟨g, cap, cur, h, _⟩
      · cases h
      · injection h with h3 h4 h5
        injection h3 with h3
        exact ⟨g, h3⟩
    subst hg
    have HG : Aside0 (S0 ≤ g) := ⟨Kd.R_base HR.out g rfl⟩
    clear hpre hdel
    go_wp2_with fail
    go_loopg [5, 6] (xs.length + 1) (fun kq v5 v6 wr => ∃ (i j : Nat) (ys : List ByteArray), v5 = .int .i64 i ∧ v6 = .int .i64 j ∧ i < j ∧ j ≤ xs.length ∧ xs.length < j + kq ∧ ys.length = xs.length ∧ Aside0 (Kd.R Kd.string 9 wr S0 (fun _ => True) (.slice (some ⟨g, 0, none⟩) xs.length c) ys) ∧ Aside0 (ys.take i = (xs.take j).filter (fun x => !delB (hands E) who x)) ∧ Aside0 (ys.drop j = xs.drop j) ∧ Aside0 (Below S0 w wr))
    case atStart => exact ⟨k0, k0 + 1, xs, rfl, by rw [wrap_one (by omega) (by have := HL.out; omega)]; rfl, by omega, by omega, by omega, rfl, ⟨Kd.R_step HR.out (fun k hk hlt => HB1.out.block k hlt)⟩, ⟨by rw [HF0.out]⟩, ⟨rfl⟩, ⟨HB1.out.mono HS.out⟩⟩
    case round =>
      clear HB1 HF0 hne hk0
      obtain ⟨i, j, ys, rfl, rfl, hij, hjn, hk, hyl, HRy, HTK, HDR, HB⟩ := hrel
      have HYL := Aside0.mk hyl
      have hc1 := Aside0.mk ((HB.out.cell (p := ⟨b1, 0, none⟩) hb1).trans H1.out)
      have hc2 := Aside0.mk ((HB.out.cell (p := ⟨b2, 0, none⟩) hb2).trans H2.out)
      have HCr : Aside0 (ChainAt wr B ok p E r) := ⟨HC.out.step fun k hk _ => HB.out.block k (HOK.out k hk)⟩
      have hRy := HRy.out
      rw [← hyl] at hRy
      by_cases hlt : j < xs.length
      · obtain ⟨hx, _⟩ := Kd.R_cell ByteArray.empty hRy (j : Int) (by omega) (by omega)
        rw [Int.toNat_natCast] at hx
        have hrj : rdOf ByteArray.empty ys (j : Int) = rdOf ByteArray.empty xs (j : Int) := by
          have h1 := congrArg List.head? HDR.out
          rw [List.head?_drop, List.head?_drop] at h1
          unfold rdOf
          rw [Int.toNat_natCast, List.getD_eq_getElem?_getD, List.getD_eq_getElem?_getD, h1]
        rw [hrj] at hx
        obtain ⟨s, hsd⟩ : ∃ s, s = rdOf ByteArray.empty xs (j : Int) := ⟨_, rfl⟩
        rw [← hsd] at hx
        have HST := Aside0.mk (kept_step (q := delB (hands E) who) hsd hlt)
        clear hrj hsd hRy
        go_wp2_with fail
        refine (pick_any B ok p r E b1 b2 who s wr HCr.out hc1.out hc2.out).mono ?_
        rintro e w2 ⟨rfl, hb⟩
        have HSZ := Aside0.mk HB.out.size
        have HB2 := Aside0.mk (HB.out.trans (hb.mono (by have := HB.out.size; have := HS.out; omega)))
        have HRy2 := Aside0.mk (Kd.R_step HRy.out (fun k hk hlt => hb.block k hlt))
        clear hb
        cases hd : delB (hands E) who s with
        | true =>
          have HT2 : Aside0 (ys.take i = (xs.take (j + 1)).filter (fun x => !delB (hands E) who x)) := ⟨by rw [HST.out, hd, HTK.out]; simp⟩
          have HD2 : Aside0 (ys.drop (j + 1) = xs.drop (j + 1)) := ⟨by rw [← List.drop_drop, ← List.drop_drop, HDR.out]⟩
          clear hd
          go_wp2
          go_roundg (gk - 1)
          case measure => omega
          case rel => exact ⟨i, j + 1, ys, rfl, by rw [wrap_one (by omega) (by have := HL.out; omega)]; rfl, by omega, by omega, by omega, HYL.out, HRy2, HT2, HD2, HB2⟩
        | false =>
          have hR2 := HRy2.out
          rw [← hyl] at hR2
          obtain ⟨hx2, hf2⟩ := Kd.R_cell ByteArray.empty hR2 (i : Int) (by omega) (by omega)
          rw [Int.toNat_natCast] at hx2 hf2
          have hP := (Kd.R_put hR2 (i : Int) s).1
          rw [Int.toNat_natCast, hyl] at hP
          have HP := Aside0.mk hP
          have HT2 : Aside0 ((ys.set i s).take (i + 1) = (xs.take (j + 1)).filter (fun x => !delB (hands E) who x)) := ⟨by
            have hi9 : i < (ys.set i s).length := by simp; omega
            rw [HST.out, hd, List.take_add_one, List.take_set_of_le (Nat.le_refl _), HTK.out, List.getElem?_eq_getElem hi9]
            simp⟩
          have HD2 : Aside0 ((ys.set i s).drop (j + 1) = xs.drop (j + 1)) := ⟨by rw [List.drop_set_of_lt (by omega), ← List.drop_drop, ← List.drop_drop, HDR.out]⟩
          clear hd hR2 hP
          go_wp2
          go_roundg (gk - 1)
          case measure => omega
          case rel => exact ⟨i + 1, j + 1, ys.set i s, by rw [wrap_one (by omega) (by have := HL.out; omega)]; rfl, by rw [wrap_one (by omega) (by have := HL.out; omega)]; rfl, by omega, by omega, by omega, by simp [HYL.out], HP, HT2, HD2, ⟨HB2.out.setCell HG.out _⟩⟩
      · have hjn2 : j = xs.length := by omega
        have HTF : Aside0 (ys.take i = xs.filter (fun x => !delB (hands E) who x)) := ⟨by rw [HTK.out, hjn2, List.take_length]⟩
        have hin : i < xs.length := by omega
        have hcell : ∀ k, k < xs.length → wr.cell? ⟨g, k, none⟩ = some (.string (rdOf ByteArray.empty ys (k : Int))) ∧ wr.frozen? ⟨g, k, none⟩ = false := fun k hk => by
          have := Kd.R_cell ByteArray.empty hRy (k : Int) (by omega) (by omega)
          rwa [Int.toNat_natCast] at this
        have hcl := fun ty => Lib.run_clear_slice (P := Try.prog) wr 44 9 ty (.string ⟨#[]⟩) Try.underlying44 zero9 rfl rfl g i (xs.length - i) (c - i) (by omega) (fun k hk => by rw [(hcell (i + k) (by omega)).1]; rfl) (fun k hk => (hcell (i + k) (by omega)).2)
        have hic : i ≤ c := by have := HLC.out; omega
        have hixs : i ≤ xs.length := by omega
        have HCE := Aside0.mk hcell
        clear hcell hRy
        go_wp2
        · exfalso
          have := HLC.out
          omega
        · go_ret
          have hlen : (ys.take i).length = i := by rw [List.length_take]; omega
          refine ⟨some ⟨g, 0, none⟩, c, ys.take i, by rw [hlen]; rfl, HTF.out, by rw [hlen]; exact hic, ?_, ?_⟩
          · rw [hlen]
            refine ⟨hlen, by have := HL.out; omega, fun _ => ⟨⟨g, 0, none⟩, rfl, fun k x hx => ⟨[.string x], rfl, rfl, fun q u hu => ?_⟩⟩⟩
            obtain ⟨hk, e⟩ := List.getElem?_eq_some_iff.1 hx
            rw [List.length_take] at hk
            cases q with
            | succ q => simp at hu
            | zero =>
              simp at hu
              subst hu
              have h9 := (HCE.out k (by omega)).1
              have hyk : rdOf ByteArray.empty ys (k : Int) = x := by
                rw [← e, List.getElem_take]
                unfold rdOf
                rw [Int.toNat_natCast, List.getD_eq_getElem?_getD, List.getElem?_eq_getElem (by omega)]
                rfl
              rw [hyk] at h9
              have ha : (⟨g, 0, none⟩ : Addr).add (k * Kd.string.sz + 0) = ⟨g, k, none⟩ := by
                simp only [show Kd.string.sz = 1 from rfl, Nat.mul_one, Nat.add_zero]
                cases k <;> simp [Addr.add]
              rw [ha, World.cell?_setCells_out]
              · exact h9
              · intro _ _
                left
                show k < i
                omega
          · refine HB.out.trans ⟨(setCells_same g _ _ _).1, (setCells_same g _ _ _).2.1, (setCells_same g _ _ _).2.2.1, Nat.le_of_eq (setCells_same g _ _ _).2.2.2.symm, fun k hk => setCells_far _ _ k (by have := HG.out; omega)⟩

theorem cell_first {w : World} {g t : Nat} {v : Value} (h : w.heap[g]? = some (.cells #[v] t)) : w.cell? ⟨g, 0, none⟩ = some v := by simp [World.cell?, h]

set_option maxRecDepth 100000 in
theorem held_any (B : Nat) (ok : Nat → Prop) (p r : Nat) (E : List BoxRow) (who : ByteArray) (w : World) (hC : ChainAt w B ok p E r) (hsm : E.length ≤ 1000000) (hsz : ∀ x ∈ E, x.1.size ≤ maxLen) :
    Calls Try.prog 24 #[.pointer (some ⟨p, 0, none⟩), .string who] w fun e w' => ∃ A c ys, e = .returned (.slice A ys.length c) ∧ ys = (sortedT (E.map (·.1))).filter (fun x => !delB (hands E) who x) ∧
      ys.length ≤ c ∧ Kd.C Kd.string w' A ys.length ys ∧ Below w.heap.size w w' := by
  have HSM := Aside0.mk hsm
  have HSZ := Aside0.mk hsz
  have HC := Aside0.mk (hC.moves (ok' := fun k => k < w.heap.size) fun k hk _ => hk)
  clear hC hsm hsz
  go_enter Try.func24, Try.ntmps24
  go_wp2_with fail
  have hb1 : Below w.heap.size w ((w.alloc (.cells #[.pointer (some ⟨p, 0, none⟩)] 25)).alloc (.cells #[.string who] 9)) := ((Below.refl _ _).alloc (Nat.le_refl _) _).alloc (by simp) _
  have HB1 := Aside0.mk hb1
  have hc1 : ((w.alloc (.cells #[.pointer (some ⟨p, 0, none⟩)] 25)).alloc (.cells #[.string who] 9)).cell? ⟨w.heap.size, 0, none⟩ = some (.pointer (some ⟨p, 0, none⟩)) := by
    rw [World.cell?_of_block (w := w.alloc (.cells #[.pointer (some ⟨p, 0, none⟩)] 25)) (heap_alloc_old _ _ (by simp))]
    exact cell_first (heap_alloc_new w _)
  have hc2 : ((w.alloc (.cells #[.pointer (some ⟨p, 0, none⟩)] 25)).alloc (.cells #[.string who] 9)).cell? ⟨w.heap.size + 1, 0, none⟩ = some (.string who) := by
    have := heap_alloc_new (w.alloc (.cells #[.pointer (some ⟨p, 0, none⟩)] 25)) (.cells #[.string who] 9)
    rw [World.size_alloc] at this
    exact cell_first this
  have hs2 : ((w.alloc (.cells #[.pointer (some ⟨p, 0, none⟩)] 25)).alloc (.cells #[.string who] 9)).heap.size = w.heap.size + 2 := by simp
  generalize ((w.alloc (.cells #[.pointer (some ⟨p, 0, none⟩)] 25)).alloc (.cells #[.string who] 9)) = W at HB1 hc1 hc2 hs2 hb1 ⊢
  have HC1 := Aside0.mk (HC.out.below hb1)
  have H1 := Aside0.mk hc1
  have H2 := Aside0.mk hc2
  have HS2 := Aside0.mk hs2
  clear hb1 hs2 hc2
  go_wp2_with fail
  refine (boxes_any _ _ p r E W HC1.out HSM.out HSZ.out).mono ?_
  rintro e w2 ⟨v, rfl, hR, hb⟩
  have HR := Aside0.mk hR
  have HB2 := Aside0.mk hb
  clear hR hb hc1
  go_wp2_with fail
  refine (delete_held _ W.heap.size _ p r E w.heap.size (w.heap.size + 1) who v (sortedT (E.map (·.1))) w2 HR.out (HC1.out.below HB2.out) (fun k hk => by have := HS2.out; omega) (by have := HS2.out; omega) (by have := HS2.out; omega)
    ((HB2.out.cell (by have := HS2.out; simp; omega)).trans H1.out) ((HB2.out.cell (by have := HS2.out; simp; omega)).trans H2.out) (by rw [sortedT_len]; have := HSM.out; simpa using this) HB2.out.size).mono ?_
  rintro e w3 ⟨A3, c3, ys, rfl, hys, hyc, hyr, hb3⟩
  have HY := Aside0.mk hys
  have HYC := Aside0.mk hyc
  have HYR := Aside0.mk hyr
  have HB3 := Aside0.mk hb3
  clear hys hyc hyr hb3
  go_wp2
  go_ret
  exact ⟨A3, c3, ys, rfl, HY.out, HYC.out, HYR.out, HB1.out.trans ((HB2.out.trans HB3.out).mono HB1.out.size)⟩
end Go.Proofs.Ytonnhdffjbpgnaa
