/- The program's look at a row of hand-overs: the first that is refused, and why. Conditions: a row of at most a million. -/
import Derived.Test.YtonnhdffjbpgnaaDo
set_option linter.unusedVariables false
set_option linter.unusedSimpArgs false
set_option linter.unusedSectionVars false
namespace Go.Proofs.Ytonnhdffjbpgnaa
open Go.RowKit Go.Proofs.YtonnhdffjbpgnaaW.PrintWords Go.Proofs.YtonnhdffjbpgnaaW.PrintLast Go.Proofs.YtonnhdffjbpgnaaW.PrintMore
open Q

def checkP : List (ByteArray × List S41) → Nat → List S41 → Int × Int
  | _, i, [] => (i, 0)
  | M, i, h :: t => if doE M h ≠ 0 then (i, doE M h) else checkP (doM M h) (i + 1) t

theorem small_begin {n : Nat} {M : List (ByteArray × List S41)} (h : Small n M) (box who place : ByteArray) (day : Int) : Small (n + 1) (beginM M box who place day) := by
  unfold beginM
  split
  · refine ⟨by have := h.1; simp; omega, fun x hx => ?_⟩
    rcases List.mem_append.1 hx with hx | hx
    · exact Nat.le_succ_of_le (h.2 x hx)
    · rw [List.mem_singleton.1 hx]; simp
  · exact ⟨Nat.le_succ_of_le h.1, fun x hx => Nat.le_succ_of_le (h.2 x hx)⟩
theorem small_hand {n : Nat} {M : List (ByteArray × List S41)} (h : Small n M) (x : S41) : Small (n + 1) (handM M x) := by
  unfold handM
  split
  · refine ⟨by have := h.1; simp; omega, fun y hy => ?_⟩
    obtain ⟨z, hz, rfl⟩ := List.mem_map.1 hy
    have := h.2 z hz
    split
    · simp; omega
    · omega
  · exact ⟨Nat.le_succ_of_le h.1, fun x hx => Nat.le_succ_of_le (h.2 x hx)⟩
theorem small_do {n : Nat} {M : List (ByteArray × List S41)} (h : Small n M) (x : S41) : Small (n + 1) (doM M x) := by
  unfold doM
  split
  · exact small_begin h _ _ _ _
  · exact small_hand h x

def Sized (l : List S41) : Prop := ∀ h ∈ l, ∀ s ∈ [h.f0, h.f1, h.f2, h.f3], s.size ≤ maxLen

theorem drop_rd {l : List S41} {i : Nat} (h : i < l.length) : l.drop i = rd_T41 l (i : Int) :: l.drop (i + 1) := by
  rw [List.drop_eq_getElem_cons h]
  unfold rd_T41
  rw [Int.toNat_natCast, List.getD_eq_getElem?_getD, List.getElem?_eq_getElem h]
  rfl
theorem rd_mem {l : List S41} {i : Nat} (h : i < l.length) : rd_T41 l (i : Int) ∈ l := by
  unfold rd_T41
  rw [Int.toNat_natCast, List.getD_eq_getElem?_getD, List.getElem?_eq_getElem h]
  exact List.getElem_mem h

set_option maxRecDepth 100000 in
theorem check_any (A : Option Addr) (c : Nat) (l : List S41) (w : World) (hr : Kd.C k41 w A l.length l) (hs : Sized l) (hlen : l.length ≤ 1000000) :
    Calls Try.prog 16 #[.slice A l.length c] w fun e w' => e = .returned (.tuple #[.int .i64 (checkP [] 0 l).1, .int .i64 (checkP [] 0 l).2]) ∧ Below w.heap.size w w' := by
  have HR := Aside0.mk hr
  have HS := Aside0.mk hs
  obtain ⟨res, hres⟩ : ∃ res, res = checkP [] 0 l := ⟨_, rfl⟩
  rw [← hres]
  have HRES := Aside0.mk hres
  clear hr hs hres
  go_enter Try.func16, Try.ntmps16
  go_wp2_with fail
  refine (new_any w.heap.size (fun k => w.heap.size ≤ k) w (Nat.le_refl _) (fun k hk => hk)).mono ?_
  rintro e w1 ⟨p, r, rfl, hC, hb⟩
  have HC := Aside0.mk hC
  have HB := Aside0.mk hb
  clear hC hb
  go_wp2_with fail
  go_loopg [11] (l.length + 1) (fun kq v wr => ∃ (i : Nat) (E : List BoxRow), v = .int .i64 i ∧ i ≤ l.length ∧ l.length < i + kq ∧ Aside0 (ChainAt wr w.heap.size (fun k => w.heap.size ≤ k) p E r) ∧ Aside0 (Small i (hands E)) ∧ Aside0 (checkP (hands E) i (l.drop i) = res) ∧ Aside0 (Below w.heap.size w wr))
  case atStart => exact ⟨0, [], rfl, Nat.zero_le _, by omega, HC, ⟨⟨Nat.le_refl _, by simp [hands]⟩⟩, ⟨by rw [HRES.out]; rfl⟩, HB⟩
  case round =>
    clear HC HB
    obtain ⟨i, E, rfl, hi, hk, HC, HSM, HP, HB⟩ := hrel
    by_cases hlt : i < l.length
    · obtain ⟨ad, rfl, hx0, hx1, hx2, hx3, hx4⟩ := at_T41 HR.out i (by omega) (by omega)
      replace hx0 := (HB.out.cell (World.block_lt_of_cell? w _ hx0)).trans hx0
      replace hx1 := (HB.out.cell (World.block_lt_of_cell? w _ hx1)).trans hx1
      replace hx2 := (HB.out.cell (World.block_lt_of_cell? w _ hx2)).trans hx2
      replace hx3 := (HB.out.cell (World.block_lt_of_cell? w _ hx3)).trans hx3
      replace hx4 := (HB.out.cell (World.block_lt_of_cell? w _ hx4)).trans hx4
      obtain ⟨h, hh⟩ : ∃ h, h = rd_T41 l (i : Int) := ⟨_, rfl⟩
      rw [← hh, Int.toNat_natCast] at hx0 hx1 hx2 hx3 hx4
      have HH := Aside0.mk hh
      clear hh
      have hB1 : Below wr.heap.size wr (wr.alloc (handO h)) := (Below.refl _ _).alloc (Nat.le_refl _) _
      have hsz := HB.out.size
      have HB1 := Aside0.mk hB1
      have HC1 := Aside0.mk (HC.out.below hB1)
      have hSh : ∀ s ∈ [h.f0, h.f1, h.f2, h.f3], s.size ≤ maxLen := HS.out h (by rw [HH.out]; exact rd_mem hlt)
      have HSH := Aside0.mk hSh
      have hsm : Small 1000000 (hands E) := ⟨by have := HSM.out.1; omega, fun x hx => by have := HSM.out.2 x hx; omega⟩
      have HSM2 := Aside0.mk hsm
      have hcp : checkP (hands E) i (l.drop i) = if doE (hands E) h ≠ 0 then ((i : Int), doE (hands E) h) else checkP (doM (hands E) h) (i + 1) (l.drop (i + 1)) := by rw [drop_rd hlt, checkP, HH.out]
      have HCP := Aside0.mk hcp
      clear hB1 hSh hsm hcp
      go_wp2_with fail
      refine (do_any w.heap.size _ p r E h _ HC1.out (by simp; omega) (fun k hk => by simp at hk; omega) HSH.out HSM2.out).mono ?_
      rintro e w2 ⟨E', rfl, hC', hh', hT⟩
      have hb2 : Below w.heap.size w w2 := (HB.out.alloc hsz _).trans (hT.below (by simp; omega) (fun k hk => by omega))
      have HC' := Aside0.mk hC'
      have HH' := Aside0.mk hh'
      have HB2 := Aside0.mk hb2
      clear hC' hh' hT hb2
      by_cases hz : doE (hands E) h = 0
      · have hnx : checkP (hands E') (i + 1) (l.drop (i + 1)) = res := by
          rw [HH'.out, ← HP.out, HCP.out, if_neg (by simpa using hz)]
        have HNX := Aside0.mk hnx
        have hzb : (doE (hands E) h == 0) = true := by simpa using hz
        have hzn : (doE (hands E) h != 0) = false := by simpa using hz
        clear hnx hz
        go_wp2
        go_roundg (gk - 1)
        case measure => omega
        case rel => exact ⟨i + 1, E', by go_num, by omega, by omega, HC', ⟨by rw [HH'.out]; exact small_do HSM.out h⟩, HNX, HB2⟩
      · have hnx : res = ((i : Int), doE (hands E) h) := by
          rw [← HP.out, HCP.out, if_pos (by simpa using hz)]
        have HNX := Aside0.mk hnx
        have hzn : (doE (hands E) h != 0) = true := by simpa using hz
        clear hnx hz
        go_wp2
        go_ret2
        exact ⟨by rw [HNX.out]; rfl, HB2.out⟩
    · have hnx : res = ((l.length : Int), 0) := by
        have : i = l.length := by omega
        rw [← HP.out, this, List.drop_length]
        rfl
      have HNX := Aside0.mk hnx
      clear hnx
      go_wp2
      go_ret2
      exact ⟨by rw [HNX.out]; rfl, HB.out⟩
end Go.Proofs.Ytonnhdffjbpgnaa
