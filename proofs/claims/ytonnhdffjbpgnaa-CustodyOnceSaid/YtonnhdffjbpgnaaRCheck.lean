/- What the document's look at a row of hand-overs tells: the first that is refused, and why. Conditions: rows of at most a thousand. -/
import Derived.Test.YtonnhdffjbpgnaaHands
import Derived.StillTailTactics
set_option linter.unusedVariables false
set_option linter.unusedSimpArgs false
set_option linter.unusedSectionVars false
namespace Go.Proofs.Ytonnhdffjbpgnaa
open Go.RowKit Go.Proofs.YtonnhdffjbpgnaaW.PrintWords Go.Proofs.YtonnhdffjbpgnaaW.PrintLast Go.Proofs.YtonnhdffjbpgnaaW.PrintMore
open Q

theorem rhands_any (A : Option Addr) (c : Nat) (l : List S41) (h : S41) (w : World) (hr : Kd.C k41 w A l.length l) (hc : l.length ≤ c) (hl : l.length ≤ 1000000) (hS : ∀ s ∈ [h.f0, h.f1, h.f2, h.f3], s.size ≤ maxLen) :
    Calls Try.prog 30 #[.slice A l.length c, handV h] w fun e w' => e = .returned (.int .i64 (handR (ownP l h.f0) h)) ∧ Below w.heap.size w w' :=
  rhands_own (ownP l h.f0) A c l h.f0 h.f1 h.f2 h.f3 h.f4 w rfl hr hc hl hS

def refE (done : List S41) (h : S41) : Int := if h.f1.toList = [] then beginR done h.f0 h.f2 h.f3 h.f4 else handR (ownP done h.f0) h
def refP : List S41 → Nat → List S41 → Int × Int
  | _, i, [] => (i, 0)
  | done, i, h :: t => if refE done h ≠ 0 then (i, refE done h) else refP (done ++ [h]) (i + 1) t

set_option maxRecDepth 100000 in
theorem rcheck_any (A : Option Addr) (c : Nat) (l : List S41) (w : World) (hr : Kd.C k41 w A l.length l) (hs : Sized l) (hlen : l.length ≤ 1000) :
    Calls Try.prog 17 #[.slice A l.length c] w fun e w' => e = .returned (.tuple #[.int .i64 (refP [] 0 l).1, .int .i64 (refP [] 0 l).2]) ∧ Below w.heap.size w w' := by
  have HR := Aside0.mk hr
  have HS := Aside0.mk hs
  obtain ⟨res, hres⟩ : ∃ res, res = refP [] 0 l := ⟨_, rfl⟩
  rw [← hres]
  have HRES := Aside0.mk hres
  have HL := Aside0.mk hlen
  clear hr hs hres hlen
  have HB := Aside0.mk (Below.refl w.heap.size w)
  go_enter Try.func17, Try.ntmps17
  go_wp2_with ((with_reducible refine gate_dst (N := 7) rfl ?_); refine Kd.R_lit k41 _ 41 ?hg (N := 7) ?hd (xs := ([] : List S41)) (inner := []) (ok := fun _ => True) (okp := fun _ => True) ?hr ?hp (fun _ hk => hk) trivial (Below.refl _ _) (Nat.le_refl _) (by simp) ?_; (case hd => rfl); (case hg => rfl); (case hr => first | (go_simp; done) | (go_simp; rfl)); (case hp => exact (Reps.none _ _)); intro v0 w0 ho0 hb0 hg0 hn0; have HO0 := Aside0.mk ho0; have HB0 := Aside0.mk hb0; clear ho0 hb0 hg0 hn0)
  go_loopg [4, 5] (l.length + 1) (fun kq v4 v5 wr => ∃ (i : Nat) (done : List S41), v5 = .int .i64 i ∧ i ≤ l.length ∧ l.length < i + kq ∧ done.length ≤ i ∧ Aside0 (Kd.R k41 41 wr w.heap.size (fun _ => True) v4 done) ∧ Aside0 (refP done i (l.drop i) = res) ∧ Aside0 (Below w.heap.size w wr))
  case atStart => exact ⟨0, [], rfl, Nat.zero_le _, by omega, Nat.le_refl _, HO0, ⟨by rw [HRES.out]; rfl⟩, HB0⟩
  case round =>
    clear HO0 HB0 HB
    obtain ⟨i, done, rfl, hi, hk, hdl, HO, HP, HB⟩ := hrel
    by_cases hlt : i < l.length
    · obtain ⟨ad, rfl, hx0, hx1, hx2, hx3, hx4⟩ := at_T41 HR.out i (by omega) (by omega)
      replace hx0 := (HB.out.cell (World.block_lt_of_cell? w _ hx0)).trans hx0
      replace hx1 := (HB.out.cell (World.block_lt_of_cell? w _ hx1)).trans hx1
      replace hx2 := (HB.out.cell (World.block_lt_of_cell? w _ hx2)).trans hx2
      replace hx3 := (HB.out.cell (World.block_lt_of_cell? w _ hx3)).trans hx3
      replace hx4 := (HB.out.cell (World.block_lt_of_cell? w _ hx4)).trans hx4
      obtain ⟨h, hh⟩ : ∃ h, h = rd_T41 l (i : Int) := ⟨_, rfl⟩
      rw [← hh, Int.toNat_natCast] at hx0 hx1 hx2 hx3 hx4
      have hSh : ∀ s ∈ [h.f0, h.f1, h.f2, h.f3], s.size ≤ maxLen := HS.out h (by rw [hh]; exact rd_mem hlt)
      have HSH := Aside0.mk hSh
      have hcp : refP done i (l.drop i) = if refE done h ≠ 0 then ((i : Int), refE done h) else refP (done ++ [h]) (i + 1) (l.drop (i + 1)) := by rw [drop_rd hlt, refP, hh]
      have HCP := Aside0.mk hcp
      have HDL : Aside0 (done.length ≤ 1000) := ⟨by have := HL.out; omega⟩
      obtain ⟨A1, c1, rfl, hc1, hrd⟩ := Kd.R_reads HO.out
      have HRD := Aside0.mk hrd
      have HC1 := Aside0.mk hc1
      have HSZ := Aside0.mk HB.out.size
      clear hSh hcp hh hrd hc1
      by_cases hf : h.f1.toList = []
      · have hfe : h.f1.toList.isEmpty = true := by simp [hf]
        have hre : refE done h = beginR done h.f0 h.f2 h.f3 h.f4 := by simp [refE, hf]
        have HRE := Aside0.mk hre
        clear hf hre
        go_wp2_with fail
        go_still_tail 21, (by kernel_rfl)
        change wpList _ _ _ _ _ wr.drew
        go_wp2_with fail
        refine (rbegins_any A1 c1 done h.f0 h.f2 h.f3 h.f4 _ (Kd.C_drew HRD.out) HC1.out HDL.out (HSH.out _ (by simp)) (HSH.out _ (by simp)) (HSH.out _ (by simp))).mono ?_
        rintro e w2 ⟨rfl, hb⟩
        have HB1 := below_drew HB.out
        have HB2 := Aside0.mk (HB1.trans (hb.mono (by have := HSZ.out; simp; omega)))
        have hb2 : Below wr.heap.size wr w2 := (below_drew (Below.refl _ _)).trans hb
        have HO2 := Aside0.mk (Kd.R_below HO.out hb2)
        replace hx0 := (hb2.cell (World.block_lt_of_cell? wr _ hx0)).trans hx0
        replace hx1 := (hb2.cell (World.block_lt_of_cell? wr _ hx1)).trans hx1
        replace hx2 := (hb2.cell (World.block_lt_of_cell? wr _ hx2)).trans hx2
        replace hx3 := (hb2.cell (World.block_lt_of_cell? wr _ hx3)).trans hx3
        replace hx4 := (hb2.cell (World.block_lt_of_cell? wr _ hx4)).trans hx4
        clear hb hb2 HB1
        by_cases hz : refE done h = 0
        · have hnx : refP (done ++ [h]) (i + 1) (l.drop (i + 1)) = res := by
            rw [← HP.out, HCP.out, if_neg (by simpa using hz)]
          have HNX := Aside0.mk hnx
          have hzn : (beginR done h.f0 h.f2 h.f3 h.f4 != 0) = false := by rw [← HRE.out]; simpa using hz
          clear hnx hz
          go_wp2_with ((with_reducible refine gate_builtin (b := .append) (xs := #[.tmp 52, .tmp 57]) rfl ?_); at_builtin; refine Kd.R_append k41 (w0 := w) w.heap.size rfl (.tmp 52) (.tmp 57) 22 41 (.agg #[(.string ⟨#[]⟩), (.string ⟨#[]⟩), (.string ⟨#[]⟩), (.string ⟨#[]⟩), (.int .i64 0)]) 72 rfl Try.underlying22 info41 rfl (by decide) (by omega) (.slice A1 done.length c1) done h [.string h.f0, .string h.f1, .string h.f2, .string h.f3, .int .i64 h.f4] (fun _ => True) (fun _ => False) rfl rfl ?aP (fun _ hk => hk.elim) ?aF ?aO ?aB ?aS ?aL ?_; (case aP => exact k41_mkM _ _ _ h); (case aB => exact HB2.out); (case aF => exact (fun _ _ => trivial)); (case aO => exact HO2.out); (case aS => exact HB2.out.size); (case aL => have := HDL.out; omega); intro v9 w9 ho9 hb9 hg9 hat9; have HO9 := Aside0.mk ho9; have HB9 := Aside0.mk hb9; clear ho9 hb9 hg9 hat9)
          go_roundg (gk - 1)
          case measure => omega
          case rel => exact ⟨i + 1, done ++ [h], by rw [wrap_one (by omega) (by have := HL.out; omega)]; rfl, by omega, by omega, by simp; omega, HO9, HNX, HB9⟩
        · have hnx : res = ((i : Int), refE done h) := by
            rw [← HP.out, HCP.out, if_pos (by simpa using hz)]
          have HNX := Aside0.mk hnx
          have hzn : (beginR done h.f0 h.f2 h.f3 h.f4 != 0) = true := by rw [← HRE.out]; simpa using hz
          clear hnx hz
          go_wp2
          go_ret2
          exact ⟨by rw [HNX.out, HRE.out]; rfl, HB2.out⟩
      · have hfe : h.f1.toList.isEmpty = false := by simpa using hf
        have hre : refE done h = handR (ownP done h.f0) h := by simp [refE, hf]
        have HRE := Aside0.mk hre
        clear hf hre
        go_wp2_with fail
        refine (rhands_any A1 c1 done h _ HRD.out HC1.out (by have := HDL.out; omega) HSH.out).mono ?_
        rintro e w2 ⟨rfl, hb⟩
        have HB1 := HB.out
        have HB2 := Aside0.mk (HB1.trans (hb.mono (by have := HSZ.out; simp; omega)))
        have hb2 : Below wr.heap.size wr w2 := hb
        have HO2 := Aside0.mk (Kd.R_below HO.out hb2)
        replace hx0 := (hb2.cell (World.block_lt_of_cell? wr _ hx0)).trans hx0
        replace hx1 := (hb2.cell (World.block_lt_of_cell? wr _ hx1)).trans hx1
        replace hx2 := (hb2.cell (World.block_lt_of_cell? wr _ hx2)).trans hx2
        replace hx3 := (hb2.cell (World.block_lt_of_cell? wr _ hx3)).trans hx3
        replace hx4 := (hb2.cell (World.block_lt_of_cell? wr _ hx4)).trans hx4
        clear hb hb2 HB1
        by_cases hz : refE done h = 0
        · have hnx : refP (done ++ [h]) (i + 1) (l.drop (i + 1)) = res := by
            rw [← HP.out, HCP.out, if_neg (by simpa using hz)]
          have HNX := Aside0.mk hnx
          have hzn : (handR (ownP done h.f0) h != 0) = false := by rw [← HRE.out]; simpa using hz
          clear hnx hz
          go_wp2_with ((with_reducible refine gate_builtin (b := .append) (xs := #[.tmp 52, .tmp 57]) rfl ?_); at_builtin; refine Kd.R_append k41 (w0 := w) w.heap.size rfl (.tmp 52) (.tmp 57) 22 41 (.agg #[(.string ⟨#[]⟩), (.string ⟨#[]⟩), (.string ⟨#[]⟩), (.string ⟨#[]⟩), (.int .i64 0)]) 72 rfl Try.underlying22 info41 rfl (by decide) (by omega) (.slice A1 done.length c1) done h [.string h.f0, .string h.f1, .string h.f2, .string h.f3, .int .i64 h.f4] (fun _ => True) (fun _ => False) rfl rfl ?aP (fun _ hk => hk.elim) ?aF ?aO ?aB ?aS ?aL ?_; (case aP => exact k41_mkM _ _ _ h); (case aB => exact HB2.out); (case aF => exact (fun _ _ => trivial)); (case aO => exact HO2.out); (case aS => exact HB2.out.size); (case aL => have := HDL.out; omega); intro v9 w9 ho9 hb9 hg9 hat9; have HO9 := Aside0.mk ho9; have HB9 := Aside0.mk hb9; clear ho9 hb9 hg9 hat9)
          go_roundg (gk - 1)
          case measure => omega
          case rel => exact ⟨i + 1, done ++ [h], by rw [wrap_one (by omega) (by have := HL.out; omega)]; rfl, by omega, by omega, by simp; omega, HO9, HNX, HB9⟩
        · have hnx : res = ((i : Int), refE done h) := by
            rw [← HP.out, HCP.out, if_pos (by simpa using hz)]
          have HNX := Aside0.mk hnx
          have hzn : (handR (ownP done h.f0) h != 0) = true := by rw [← HRE.out]; simpa using hz
          clear hnx hz
          go_wp2
          go_ret2
          exact ⟨by rw [HNX.out, HRE.out]; rfl, HB2.out⟩
    · have hnx : res = ((l.length : Int), 0) := by
        have : i = l.length := by omega
        rw [← HP.out, this, List.drop_length]
        rfl
      have HNX := Aside0.mk hnx
      clear hnx
      go_wp2
      go_ret2
      exact ⟨by rw [HNX.out]; rfl, HB.out⟩
end Go.Proofs.Ytonnhdffjbpgnaa
