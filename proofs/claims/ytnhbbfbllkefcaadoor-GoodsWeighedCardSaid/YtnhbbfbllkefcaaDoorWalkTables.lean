/- The law GoodsTables, walked: it tells true. Conditions: the table of classes lies as the text lays it; texts and rows as a machine can hold. -/
import Derived.Test.YtnhbbfbllkefcaaDoorRefG
set_option linter.unusedVariables false
set_option linter.unusedSimpArgs false
set_option linter.unusedSectionVars false
namespace Go.Proofs.YtnhbbfbllkefcaaDoor
open Go.RowKit Go.Proofs.YtnhbbfbllkefcaaDoorW.PrintWords Go.Proofs.YtnhbbfbllkefcaaDoorW.PrintLast Go.Proofs.YtnhbbfbllkefcaaDoorW.PrintMore
open Q

/-- What Get leaves. -/
def GotAt (w : World) (M : List S36) (code : ByteArray) (e : Ending) (w' : World) : Prop :=
  e = .returned (.tuple #[((findG M code).map vG).getD zG, .bool (findG M code).isSome]) ∧ Below w.heap.size w w'
set_option maxRecDepth 100000 in
theorem get_any {w : World} {g r : Nat} {M : List S36} (hT : TabAt w g r M) (code : ByteArray) : Calls Tryd.prog 18 #[.pointer (some ⟨g, 0, none⟩), .string code] w (GotAt w M code) := by
  have hu36 := Tryd.underlying36
  have hcg := hT.cell
  have HB0 := Aside0.mk ((Below.refl w.heap.size w).alloc (Nat.le_refl _) (gO ⟨⟨#[]⟩, 0, 0, 0⟩))
  have HT := Aside0.mk hT
  have hg := hT.lt
  obtain ⟨y, hy⟩ : ∃ y : S36, ((findG M code).map vG).getD zG = vG y := by
    cases findG M code with
    | none => exact ⟨⟨⟨#[]⟩, 0, 0, 0⟩, rfl⟩
    | some y => exact ⟨y, rfl⟩
  have HL := Aside0.mk (fun (W : World) (h : TabAt W g r M) => look_any h code)
  obtain ⟨b, hb⟩ : ∃ b, b = (findG M code).isSome := ⟨_, rfl⟩
  have HG : Aside0 (∀ (e : Ending) (w' : World), e = .returned (.tuple #[vG y, .bool b]) ∧ Below w.heap.size w w' → GotAt w M code e w') := ⟨fun e w' h => by unfold GotAt; rw [hy, ← hb]; exact h⟩
  rw [hy, ← hb] at HL
  clear hT hy hb
  obtain ⟨y0, y1, y2, y3⟩ := y
  go_enter Tryd.func18, Tryd.ntmps18
  have hcg1 : (w.alloc (gO ⟨⟨#[]⟩, 0, 0, 0⟩)).cell? ⟨g, 0, none⟩ = some (.map (some r)) := (HT.out.below HB0.out).cell
  have HT1 := Aside0.mk (HT.out.below HB0.out)
  have hz1 := Aside0.mk (heap_alloc_new w (gO ⟨⟨#[]⟩, 0, 0, 0⟩))
  have hlk := HL.out _ HT1.out
  dsimp only [gO] at hcg1 HT1 hz1 HB0 hlk
  go_wp2_with fail
  exact bodyPost_ret (v := .tuple #[vG ⟨y0, y1, y2, y3⟩, .bool b]) (by simp [results, Tryd.results18, go_sem]) rfl (HG.out _ _ ⟨rfl, (((Below.refl w.heap.size w).alloc (Nat.le_refl _) (gO ⟨y0, y1, y2, y3⟩)).alloc (by simp) (gO ⟨y0, y1, y2, y3⟩))⟩)
theorem bstep {w W W2 : World} (h : Below w.heap.size w W) (hb : Below W.heap.size W W2) : Below w.heap.size w W2 := h.trans (hb.mono h.size)
set_option maxRecDepth 100000 in
set_option maxHeartbeats 1000000 in
theorem tables_walk (A : Option Addr) (c : Nat) (l : List S36) (code : ByteArray) (w : World) (hr : Kd.C k36 w A l.length l) (hc : l.length ≤ c) (hs : SizedG l) (hco : code.size ≤ 140737488351232) (h : AptAt w) :
    Calls Tryd.prog 5 #[.slice A l.length c, .string code] w fun e w' => e = .returned (.bool true) ∧ Below w.heap.size w w' := by
  have hu36 := Tryd.underlying36
  have HR := Aside0.mk hr
  have HC := Aside0.mk hc
  have HS := Aside0.mk hs
  have HA := Aside0.mk h
  clear hr hc hs h
  go_enter Tryd.func5, Tryd.ntmps5
  go_wp2_with fail
  refine (awake_any _ HA.out).mono ?_
  rintro e w1 ⟨rfl, hb1⟩
  have HB1 := Aside0.mk hb1
  clear hb1
  have HFW := Aside0.mk (fewG_any A c l w1 (Kd.C_below HR.out HB1.out) HC.out)
  obtain ⟨b, hb⟩ : ∃ b, b = fewG l := ⟨_, rfl⟩
  rw [← hb] at HFW
  have HFB := Aside0.mk hb
  clear hb
  go_wp2_with fail
  refine HFW.out.mono ?_
  rintro e w2 ⟨rfl, n2, rfl⟩
  have HB2 : Aside0 (Below w.heap.size w (w1.drewN n2)) := ⟨pw_below_drewN HB1.out n2⟩
  clear HB1 HFW
  generalize w1.drewN n2 = w2 at HB2 ⊢
  cases b with
  | false =>
    go_wp2
    go_ret
    exact ⟨rfl, HB2.out⟩
  | true =>
    by_cases h60 : 60 < code.size
    · go_wp2
      go_ret
      exact ⟨rfl, HB2.out⟩
    · obtain ⟨hl41, hs60⟩ := few_facts HFB.out.symm
      have HS60 := Aside0.mk hs60
      clear hs60
      go_wp2_with fail
      go_loopg [5] (l.length + 1) (fun kq v wr => ∃ i : Nat, v = .int .i64 i ∧ i ≤ l.length ∧ l.length < i + kq ∧ Aside0 (Below w.heap.size w wr))
      case atStart => exact ⟨0, rfl, Nat.zero_le _, by omega, HB2⟩
      case round =>
        clear HB2
        obtain ⟨i, rfl, hi, hk, HB⟩ := hrel
        by_cases hlt : i < l.length
        · obtain ⟨ad, rfl, y0, y1, y2, y3⟩ := at_T36 (Kd.C_below HR.out HB.out) (i : Int) (by omega) (by omega)
          rw [Int.toNat_natCast] at y0 y1 y2 y3
          have hgt := get_G hlt
          obtain ⟨x, hx⟩ : ∃ x, x = rd_T36 l (i : Int) := ⟨_, rfl⟩
          rw [← hx] at y0 y1 y2 y3 hgt
          have hsx := HS60.out x (List.mem_of_getElem? hgt)
          have HM := Aside0.mk (fun W => may_any x W (by omega))
          have HRM := Aside0.mk (fun W => rmay_any x W (by omega))
          obtain ⟨q, hq⟩ : ∃ q, q = mayG x := ⟨_, rfl⟩
          rw [← hq] at HM HRM
          have hic : i < c := by have := HC.out; omega
          have HBX := Aside0.mk (Below.refl wr.heap.size wr)
          have hqq : (q != q) = false := by simp
          have Y0 := Aside0.mk y0
          have Y1 := Aside0.mk y1
          have Y2 := Aside0.mk y2
          have Y3 := Aside0.mk y3
          clear hgt hx hq hsx
          obtain ⟨f0, f1, f2, f3⟩ := x
          dsimp only at y0 y1 y2 y3
          go_wp2_with fail
          go_region_held3 (fun w' => w'.cell? (ad.add (i * 4)) = some (.string f0) ∧ w'.cell? ⟨(ad.add (i * 4)).block, (ad.add (i * 4)).off + 1, none⟩ = some (.int .i64 f1) ∧ w'.cell? ⟨(ad.add (i * 4)).block, (ad.add (i * 4)).off + 2, none⟩ = some (.int .i64 f2) ∧ w'.cell? ⟨(ad.add (i * 4)).block, (ad.add (i * 4)).off + 3, none⟩ = some (.int .i64 f3)) (go_keep)
            (first
              | (go_at_call 15; refine (HM.out _).mono ?_; rintro e wx ⟨rfl, hbx⟩; have HBX := Aside0.mk (bstep (by first | exact HBX.out | exact below_drew HBX.out) hbx); have k0 := (HBX.out.cell (World.block_lt_of_cell? wr _ Y0.out)).trans Y0.out; have k1 := (HBX.out.cell (World.block_lt_of_cell? wr _ Y1.out)).trans Y1.out; have k2 := (HBX.out.cell (World.block_lt_of_cell? wr _ Y2.out)).trans Y2.out; have k3 := (HBX.out.cell (World.block_lt_of_cell? wr _ Y3.out)).trans Y3.out; clear hbx)
              | (go_at_call 16; refine (HRM.out _).mono ?_; rintro e wx ⟨rfl, hbx⟩; have HBX := Aside0.mk (bstep (by first | exact HBX.out | exact below_drew HBX.out) hbx); have k0 := (HBX.out.cell (World.block_lt_of_cell? wr _ Y0.out)).trans Y0.out; have k1 := (HBX.out.cell (World.block_lt_of_cell? wr _ Y1.out)).trans Y1.out; have k2 := (HBX.out.cell (World.block_lt_of_cell? wr _ Y2.out)).trans Y2.out; have k3 := (HBX.out.cell (World.block_lt_of_cell? wr _ Y3.out)).trans Y3.out; clear hbx))
          all_goals
            go_wp2_with fail
            go_roundg (gk - 1)
            case measure => omega
            case rel => exact ⟨i + 1, rfl, by omega, by omega, ⟨bstep HB.out HBX.out⟩⟩
        · obtain rfl : i = l.length := by omega
          clear hlt hi hk
          have HMK := Aside0.mk (make_any A c l wr (Kd.C_below HR.out HB.out) HC.out HS.out)
          go_wp2_with fail
          refine HMK.out.mono ?_
          rintro e w3 ⟨hb3, hmade⟩
          have HB3 := Aside0.mk (HB.out.trans (hb3.mono HB.out.size))
          have HRN := Aside0.mk (rnew_any A c l w3 (Kd.C_below HR.out HB3.out) HC.out HFB.out.symm)
          clear hb3 HMK HB
          rcases hmade with ⟨hne, rfl⟩ | ⟨h0, g, r, rfl, hT, hg, hr⟩
          · obtain ⟨n, hn⟩ : ∃ n, n = errN l := ⟨_, rfl⟩
            rw [← hn] at HRN hne ⊢
            clear hn
            have hnb : (n != 0) = true := by simpa using hne
            go_wp2_with (go_at_call 17; refine (HRN.out).mono ?_; rintro e w4 ⟨rfl, hb4⟩; have HB4 := Aside0.mk (HB3.out.trans (hb4.mono HB3.out.size)); clear hb4)
            go_ret
            exact ⟨rfl, HB4.out⟩
          · rw [h0] at HRN
            have HT := Aside0.mk hT
            clear hT h0
            go_wp2_with fail
            refine (HRN.out).mono ?_
            rintro e w4 ⟨rfl, hb4⟩
            have HB4 := Aside0.mk (HB3.out.trans (hb4.mono HB3.out.size))
            have HT4 := Aside0.mk (HT.out.below hb4)
            clear hb4
            go_wp2_with fail
            refine (get_any HT4.out code).mono ?_
            rintro e w5 ⟨rfl, hb5⟩
            have HB5 := Aside0.mk (HB4.out.trans (hb5.mono HB4.out.size))
            clear hb5
            have HFD := Aside0.mk (fun W (hb : Below w.heap.size w W) => find_any A c l code W (Kd.C_below HR.out hb) HC.out (by omega))
            cases hf : findG l code with
            | none =>
              have HF := Aside0.mk hf
              dsimp only [Option.map_none, Option.getD_none, Option.isSome_none, zG]
              rw [place_neg hf] at HFD
              clear hf
              have HB6 : Aside0 (Below w.heap.size w (w5.alloc (gO ⟨⟨#[]⟩, 0, 0, 0⟩))) := ⟨HB5.out.alloc HB5.out.size _⟩
              obtain ⟨z0, z1, z2, z3⟩ := g_cells (heap_alloc_new w5 (gO ⟨⟨#[]⟩, 0, 0, 0⟩))
              dsimp only [gO] at HB6 z0 z1 z2 z3
              go_wp2_with fail
              refine (HFD.out _ HB6.out).mono ?_
              rintro e w7 ⟨rfl, n7, rfl⟩
              have HB7 : Aside0 (Below w.heap.size w ((w5.alloc (.cells #[.string ⟨#[]⟩, .int .i64 0, .int .i64 0, .int .i64 0] 36)).drewN n7)) := ⟨pw_below_drewN HB6.out n7⟩
              go_wp2
              go_ret
              exact ⟨rfl, HB7.out⟩
            | some y =>
              obtain ⟨k, hk, hky, hkl⟩ := place_pos hf
              have HF := Aside0.mk hf
              dsimp only [Option.map_some, Option.getD_some, Option.isSome_some]
              rw [hk] at HFD
              clear hf hk
              have HB6 : Aside0 (Below w.heap.size w (w5.alloc (gO y))) := ⟨HB5.out.alloc HB5.out.size _⟩
              obtain ⟨z0, z1, z2, z3⟩ := g_cells (heap_alloc_new w5 (gO y))
              obtain ⟨ad, rfl, y0, y1, y2, y3⟩ := at_T36 (Kd.C_below HR.out HB6.out) (k : Int) (by omega) (by omega)
              rw [Int.toNat_natCast] at y0 y1 y2 y3
              have hy : rd_T36 l (k : Int) = y := by have := get_G hkl; rw [hky] at this; injection this with this; exact this.symm
              rw [hy] at y0 y1 y2 y3
              clear hy hky
              obtain ⟨f0, f1, f2, f3⟩ := y
              dsimp only [gO] at HB6 z0 z1 z2 z3 y0 y1 y2 y3
              have hkc : k < c := by have := HC.out; omega
              go_wp2_with fail
              refine (HFD.out _ HB6.out).mono ?_
              rintro e w7 ⟨rfl, n7, rfl⟩
              generalize w5.alloc (.cells #[.string f0, .int .i64 f1, .int .i64 f2, .int .i64 f3] 36) = w6 at HB6 z0 z1 z2 z3 y0 y1 y2 y3 ⊢
              have HB7 : Aside0 (Below w.heap.size w (w6.drewN n7)) := ⟨pw_below_drewN HB6.out n7⟩
              go_wp2_with fail
              go_quiet (fail)
              go_wp2
              go_ret
              exact ⟨rfl, pw_below_drewN HB7.out _⟩
end Go.Proofs.YtnhbbfbllkefcaaDoor
