/- What the document finds wrong first with a hand-over. Conditions: rows of at most a million. -/
import Derived.Test.YtonnhdffjbpgnaaRef
set_option linter.unusedVariables false
set_option linter.unusedSimpArgs false
set_option linter.unusedSectionVars false
namespace Go.Proofs.Ytonnhdffjbpgnaa
open Go.RowKit Go.Proofs.YtonnhdffjbpgnaaW.PrintWords Go.Proofs.YtonnhdffjbpgnaaW.PrintLast Go.Proofs.YtonnhdffjbpgnaaW.PrintMore
open Q

def handR (own : List S41) (h : S41) : Int :=
  if nm4 h.f0 h.f1 h.f2 h.f3 = false ∨ h.f1.toList = h.f2.toList then 1 else if dayB h.f4 = false then 3 else
    match own.getLast? with
    | none => 4
    | some last => if last.f2.toList ≠ h.f1.toList then 8 else if h.f4 < last.f4 then 6 else if 4096 ≤ own.length then 7 else 0
theorem handE_eq (M : List (ByteArray × List S41)) (h : S41) : handE M h = handR (hget M h.f0) h := rfl

theorem rname_any (s : ByteArray) (w : World) (hs : s.size ≤ maxLen) : Calls Try.prog 41 #[.string s] w fun e w' => e = .returned (.bool (nameB s)) ∧ ∃ n, w' = w.drewN n := by
  refine (supercargoref17_Name.calls (s.size + 1) s _ w (name_at s hs)).mono ?_
  rintro e w' ⟨rfl, n, rfl⟩
  exact ⟨rfl, n, rfl⟩
theorem rday_any (d : Int) (w : World) : Calls Try.prog 42 #[.int .i64 d] w fun e w' => e = .returned (.bool (dayB d)) ∧ ∃ n, w' = w.drewN n := by
  refine (supercargoref17_day.calls d _ w (day_at d)).mono ?_
  rintro e w' ⟨rfl, n, rfl⟩
  exact ⟨rfl, n, rfl⟩
theorem rown_any (A : Option Addr) (c : Nat) (l : List S41) (box : ByteArray) (w : World) (hr : Kd.C k41 w A l.length l) (hc : l.length ≤ c) (hl : l.length ≤ 1000000) :
    Calls Try.prog 12 #[.slice A l.length c, .string box] w fun e w' => ∃ v, e = .returned v ∧ Kd.R k41 41 w' w.heap.size (fun _ => True) v (ownP l box) ∧ Below w.heap.size w w' := by
  obtain ⟨k, hk⟩ := own_ev l box hl
  exact supercargoref17_Own.calls k A c l box _ w hr hc (hk k (Nat.le_refl _))
theorem rbegins_any (A : Option Addr) (c : Nat) (l : List S41) (box who place : ByteArray) (day : Int) (w : World) (hr : Kd.C k41 w A l.length l) (hc : l.length ≤ c) (hl : l.length ≤ 1000) (h1 : box.size ≤ maxLen) (h2 : who.size ≤ maxLen) (h3 : place.size ≤ maxLen) :
    Calls Try.prog 29 #[.slice A l.length c, .string box, .string who, .string place, .int .i64 day] w fun e w' => e = .returned (.int .i64 (beginR l box who place day)) ∧ Below w.heap.size w w' := by
  obtain ⟨k, hk⟩ := begins_ev l box who place day hl h1 h2 h3
  exact supercargoref17_Begins.calls k A c l box who place day _ w hr hc (hk k (Nat.le_refl _))

set_option maxRecDepth 100000 in
theorem rhands_own (own : List S41) (A : Option Addr) (c : Nat) (l : List S41) (f0 f1 f2 f3 : ByteArray) (f4 : Int) (w : World) (hown : own = ownP l f0) (hr : Kd.C k41 w A l.length l) (hc : l.length ≤ c) (hl : l.length ≤ 1000000) (hS : ∀ s ∈ [f0, f1, f2, f3], s.size ≤ maxLen) :
    Calls Try.prog 30 #[.slice A l.length c, handV ⟨f0, f1, f2, f3, f4⟩] w fun e w' => e = .returned (.int .i64 (handR own ⟨f0, f1, f2, f3, f4⟩)) ∧ Below w.heap.size w w' := by
  have HR := Aside0.mk hr
  have HC := Aside0.mk hc
  have HL := Aside0.mk hl
  have h0 := Aside0.mk (hS f0 (by simp))
  have h1 := Aside0.mk (hS f1 (by simp))
  have h2 := Aside0.mk (hS f2 (by simp))
  have h3 := Aside0.mk (hS f3 (by simp))
  have HB := Aside0.mk ((Below.refl w.heap.size w).alloc (Nat.le_refl _) (handO ⟨f0, f1, f2, f3, f4⟩))
  have hh := Aside0.mk (heap_alloc_new w (handO ⟨f0, f1, f2, f3, f4⟩))
  have HO := Aside0.mk hown
  have HLO : Aside0 (own.length ≤ 1000000) := ⟨by rw [hown]; exact Nat.le_trans (List.length_filter_le _ _) hl⟩
  clear hr hc hl hS hown
  go_enter Try.func30, Try.ntmps30
  go_wp2_with (first
    | (go_at_call 41; refine (rname_any _ _ (by first | exact h0.out | exact h1.out | exact h2.out | exact h3.out)).mono ?_; rintro e w' ⟨rfl, n, rfl⟩)
    | (go_at_call 42; refine (rday_any _ _).mono ?_; rintro e w' ⟨rfl, n, rfl⟩))
  · have hb : handR own ⟨f0, f1, f2, f3, f4⟩ = 1 := by simp_all [handR]
    go_ret
    exact ⟨ret_num hb.symm, pw_below_drewN HB.out _⟩
  · have hb : handR own ⟨f0, f1, f2, f3, f4⟩ = 3 := by simp_all [handR, nm4]
    go_ret
    exact ⟨ret_num hb.symm, pw_below_drewN HB.out _⟩
  · refine (rown_any A c l f0 _ (Kd.C_below HR.out (pw_below_drewN HB.out _)) HC.out HL.out).mono ?_
    rintro e w1 ⟨v, rfl, hR, hb⟩
    have HB1 := Aside0.mk ((pw_below_drewN HB.out _).trans (hb.mono (by simp)))
    have hh1 := (hb.block w.heap.size (by simp)).trans hh.out
    obtain ⟨k0, k1, k2, k3, k4⟩ := hand_cells hh1
    have HN : nm4 f0 f1 f2 f3 = true := by simp_all [nm4]
    have HE : (f1.toList == f2.toList) = false := by assumption
    have HD : (!dayB f4) = false := by assumption
    rw [← HO.out] at hR
    obtain ⟨A1, c1, rfl, hc1, hrd⟩ := Kd.R_reads hR
    have HRD := Aside0.mk hrd
    have hz1 : w.heap.size < w1.heap.size := by have := hb.size; simp at this; omega
    clear HO hR hrd hb hh1
    rcases List.eq_nil_or_concat own with rfl | ⟨init, last, hcat⟩
    · have he : handR [] ⟨f0, f1, f2, f3, f4⟩ = 4 := by simp_all [handR]
      have HE4 := Aside0.mk he
      clear he HN HE HD
      go_wp2
      go_ret
      exact ⟨ret_num HE4.out.symm, HB1.out⟩
    · have hl1 : own.length = init.length + 1 := by rw [hcat]; simp
      have hlast : own.getLast? = some last := by rw [hcat]; simp
      have hrl : rd_T41 own ((init.length : Nat) : Int) = last := by
        unfold rd_T41
        rw [Int.toNat_natCast, hcat]
        simp
      obtain ⟨ad, rfl, l0, l1, l2, l3, l4⟩ := at_T41 HRD.out ((init.length : Nat) : Int) (by omega) (by rw [hl1]; omega)
      rw [hrl, Int.toNat_natCast] at l0 l1 l2 l3 l4
      have he : handR own ⟨f0, f1, f2, f3, f4⟩ = if last.f2.toList ≠ f1.toList then 8 else if f4 < last.f4 then 6 else if 4096 ≤ own.length then 7 else 0 := by
        have h3' : dayB f4 = true := by simpa using HD
        have h2' : ¬ f1.toList = f2.toList := by simpa using HE
        simp [handR, HN, h3', h2', hlast]
      have HE4 := Aside0.mk he
      have HL1 := Aside0.mk hl1
      have hl0 : own.length < 1000001 := by have := HLO.out; omega
      clear he HN HE HD hcat hlast hrl
      go_wp2
      · have he : handR own ⟨f0, f1, f2, f3, f4⟩ = 8 := by rw [HE4.out, if_pos (by simp_all)]
        go_ret
        exact ⟨ret_num he.symm, HB1.out.alloc (Nat.le_of_lt hz1) _⟩
      · have he : handR own ⟨f0, f1, f2, f3, f4⟩ = 6 := by rw [HE4.out, if_neg (by simp_all), if_pos (by simp_all)]
        go_ret
        exact ⟨ret_num he.symm, HB1.out.alloc (Nat.le_of_lt hz1) _⟩
      · have he : handR own ⟨f0, f1, f2, f3, f4⟩ = 7 := by rw [HE4.out, if_neg (by simp_all), if_neg (by simp_all), if_pos (by omega)]
        go_ret
        exact ⟨ret_num he.symm, HB1.out.alloc (Nat.le_of_lt hz1) _⟩
      · have he : handR own ⟨f0, f1, f2, f3, f4⟩ = 0 := by rw [HE4.out, if_neg (by simp_all), if_neg (by simp_all), if_neg (by omega)]
        go_ret
        exact ⟨ret_num he.symm, HB1.out.alloc (Nat.le_of_lt hz1) _⟩
  all_goals
    have hb : handR own ⟨f0, f1, f2, f3, f4⟩ = 1 := by simp_all [handR, nm4]
    go_ret
    exact ⟨ret_num hb.symm, pw_below_drewN HB.out _⟩
end Go.Proofs.Ytonnhdffjbpgnaa
