/- Which classes of goods lie apart: by the program's table, by the document's rows. Conditions: the table lies as the text lays it. -/
import Derived.Test.YtnhbbfbllkefcaaDoorMark
import Derived.Test.YtnhbbfbllkefcaaDoorQInt
import Derived.Test.YtnhbbfbllkefcaaDoorQRef
set_option linter.unusedVariables false
set_option linter.unusedSimpArgs false
set_option linter.unusedSectionVars false
namespace Go.Proofs.YtnhbbfbllkefcaaDoor
open Go.RowKit Go.Proofs.YtnhbbfbllkefcaaDoorW.PrintWords Go.Proofs.YtnhbbfbllkefcaaDoorW.PrintLast Go.Proofs.YtnhbbfbllkefcaaDoorW.PrintMore
open Q

theorem wrap_one {i : Int} (h0 : 0 ≤ i) (h : i ≤ 9223372036854775806) : wrap64 (i + 1) = i + 1 := by unfold wrap64; omega
def hasI (l : List Int) (n : Int) : Bool := l.any fun x => decide (n = x)
theorem rd_int {l : List Int} {i : Nat} (h : i < l.length) : l.drop i = rd l (i : Int) :: l.drop (i + 1) := by
  rw [List.drop_eq_getElem_cons h]
  unfold rd
  rw [Int.toNat_natCast, List.getD_eq_getElem?_getD, List.getElem?_eq_getElem h]
  rfl
theorem index_int (l : List Int) (s : Int) (hl : l.length ≤ 1000) (d : Nat) : ∀ (k i : Nat), i ≤ l.length → l.length - i = d → d < k → ∃ n : Int, slices_Index_int_int.l0 k l s (l.length : Int) (i : Int) = some n ∧ decide (0 ≤ n) = hasI (l.drop i) s := by
  induction d with
  | zero =>
    intro k i hi hd hk
    obtain ⟨k, rfl⟩ : ∃ m, k = m + 1 := ⟨k - 1, by omega⟩
    rw [slices_Index_int_int.l0, if_neg (by omega), show l.drop i = [] from List.drop_eq_nil_of_le (by omega)]
    exact ⟨-1, rfl, rfl⟩
  | succ d ih =>
    intro k i hi hd hk
    obtain ⟨k, rfl⟩ : ∃ m, k = m + 1 := ⟨k - 1, by omega⟩
    have hlt : i < l.length := by omega
    rw [slices_Index_int_int.l0, if_pos (by omega), if_pos (by omega), if_pos (by omega), wrap_one (by omega) (by omega), rd_int hlt]
    by_cases e : s = rd l (i : Int)
    · rw [if_pos e]
      refine ⟨i, rfl, ?_⟩
      simp [hasI, ← e]
    · rw [if_neg e, show ((i : Int) + 1) = ((i + 1 : Nat) : Int) by omega]
      obtain ⟨n, hn, hd⟩ := ih k (i + 1) (by omega) (by omega) (by omega)
      refine ⟨n, hn, ?_⟩
      rw [hd]
      simp [hasI, e]
theorem containsI_any (A : Option Addr) (c : Nat) (l : List Int) (s : Int) (w : World) (hr : Kd.C (Kd.int .i64) w A l.length l) (hc : l.length ≤ c) (hl : l.length ≤ 1000) :
    Calls Tryd.prog 22 #[.slice A l.length c, .int .i64 s] w fun e w' => e = .returned (.bool (hasI l s)) ∧ ∃ n, w' = w.drewN n := by
  obtain ⟨n, hn, hd⟩ := index_int l s hl l.length (l.length + 1) 0 (by omega) (by omega) (by omega)
  refine (slices_Contains_int_int.calls (l.length + 1) A c l s (hasI l s) w hr hc ?_).mono ?_
  · unfold slices_Contains_int_int.f slices_Index_int_int.f
    rw [show (0 : Int) = ((0 : Nat) : Int) from rfl, hn]
    simp only [Option.bind_some]
    rw [List.drop_zero] at hd
    rw [← hd]
    rfl
  · rintro e w' ⟨rfl, n, rfl⟩
    exact ⟨rfl, n, rfl⟩
def aptRow : Nat → List Int
  | 1 => [2, 3, 4, 5, 6, 7, 8, 9]
  | 2 => [3, 5]
  | 3 => [5, 8]
  | 4 => [5, 8]
  | 5 => [6, 8]
  | 7 => [9]
  | _ => []
/-- THE TABLE lies in block 0, its rows where it says. -/
def AptAt (w : World) : Prop := ∀ i, i < 10 → ∃ A c, w.cell? ⟨0, i, none⟩ = some (.slice A (aptRow i).length c) ∧ (aptRow i).length ≤ c ∧ Kd.C (Kd.int .i64) w A (aptRow i).length (aptRow i)
theorem AptAt.below {w w' : World} (h : AptAt w) (hb : Below w.heap.size w w') : AptAt w' := by
  have h0 : 0 < w.heap.size := by
    obtain ⟨A, c, this, _⟩ := h 0 (by omega)
    unfold World.cell? at this
    by_cases e : 0 < w.heap.size
    · exact e
    · rw [Array.getElem?_eq_none (by omega)] at this
      simp at this
  intro i hi
  obtain ⟨A, c, h1, h2, h3⟩ := h i hi
  exact ⟨A, c, (hb.cell (p := ⟨0, i, none⟩) h0).trans h1, h2, Kd.C_below h3 hb⟩
def apartB (a b : Int) : Bool := decide (1 ≤ min a b) && decide (max a b ≤ 9) && hasI (aptRow (min a b).toNat) (max a b)
theorem apt_len (i : Nat) : (aptRow i).length ≤ 1000 := by unfold aptRow; split <;> simp
def apB (lo hi : Int) : Bool := decide (1 ≤ lo) && decide (hi ≤ 9) && hasI (aptRow lo.toNat) hi
def AptEnd (res : Bool) (w : World) (e : Ending) (w' : World) : Prop := e = .returned (.bool res) ∧ ∃ n, w' = w.drewN n
theorem apart_core (lo hi : Int) (w : World) (h : AptAt w) : (lo < hi → Calls Tryd.prog 8 #[.int .i64 lo, .int .i64 hi] w (AptEnd (apB lo hi) w)) ∧ (lo < hi → Calls Tryd.prog 8 #[.int .i64 hi, .int .i64 lo] w (AptEnd (apB lo hi) w)) ∧ (lo = hi → Calls Tryd.prog 8 #[.int .i64 lo, .int .i64 lo] w (AptEnd (apB lo hi) w)) := by
  obtain ⟨res, hres⟩ : ∃ res, res = apB lo hi := ⟨_, rfl⟩
  rw [← hres]
  unfold apB at hres
  have HRES := Aside0.mk hres
  have HA := Aside0.mk h
  clear hres h
  refine ⟨fun hlt => ?_, fun hlt => ?_, fun hlt => ?_⟩
  · have g1 : ¬ hi < lo := by omega
    have g2 : ¬ hi ≤ lo := by omega
    have g3 : lo ≤ hi := by omega
    by_cases h1 : 1 ≤ lo
    · by_cases h2 : hi ≤ 9
      · obtain ⟨i, rfl⟩ := Int.eq_ofNat_of_zero_le (show 0 ≤ lo by omega)
        have hi10 : i < 10 := by omega
        obtain ⟨A, c, hc, hlc, hr⟩ := HA.out i hi10
        have HCO := Aside0.mk (containsI_any A c (aptRow i) hi w hr hlc (apt_len i))
        have HRI : Aside0 (res = hasI (aptRow i) hi) := ⟨by rw [HRES.out]; simp [h2]; omega⟩
        clear hr hlc
        obtain ⟨L, hL⟩ : ∃ L, L = aptRow i := ⟨_, rfl⟩
        rw [← hL] at HCO HRI hc
        clear hL
        go_enter Tryd.func8, Tryd.ntmps8
        go_wp2_with (go_at_call 22; refine (HCO.out).mono ?_; rintro e w' ⟨rfl, n, rfl⟩)
        go_ret
        exact ⟨by rw [HRI.out]; rfl, n, rfl⟩
      · have HRI : Aside0 (res = false) := ⟨by rw [HRES.out]; simp [h2]⟩
        go_enter Tryd.func8, Tryd.ntmps8
        go_wp2
        go_ret
        exact ⟨by rw [HRI.out]; rfl, 0, rfl⟩
    · have HRI : Aside0 (res = false) := ⟨by rw [HRES.out]; simp [h1]⟩
      go_enter Tryd.func8, Tryd.ntmps8
      go_wp2
      go_ret
      exact ⟨by rw [HRI.out]; rfl, 0, rfl⟩
  · have g1 : ¬ hi < lo := by omega
    have g2 : ¬ hi ≤ lo := by omega
    have g3 : lo ≤ hi := by omega
    by_cases h1 : 1 ≤ lo
    · by_cases h2 : hi ≤ 9
      · obtain ⟨i, rfl⟩ := Int.eq_ofNat_of_zero_le (show 0 ≤ lo by omega)
        have hi10 : i < 10 := by omega
        obtain ⟨A, c, hc, hlc, hr⟩ := HA.out i hi10
        have HCO := Aside0.mk (containsI_any A c (aptRow i) hi w hr hlc (apt_len i))
        have HRI : Aside0 (res = hasI (aptRow i) hi) := ⟨by rw [HRES.out]; simp [h2]; omega⟩
        clear hr hlc
        obtain ⟨L, hL⟩ : ∃ L, L = aptRow i := ⟨_, rfl⟩
        rw [← hL] at HCO HRI hc
        clear hL
        go_enter Tryd.func8, Tryd.ntmps8
        go_wp2_with (go_at_call 22; refine (HCO.out).mono ?_; rintro e w' ⟨rfl, n, rfl⟩)
        go_ret
        exact ⟨by rw [HRI.out]; rfl, n, rfl⟩
      · have HRI : Aside0 (res = false) := ⟨by rw [HRES.out]; simp [h2]⟩
        go_enter Tryd.func8, Tryd.ntmps8
        go_wp2
        go_ret
        exact ⟨by rw [HRI.out]; rfl, 0, rfl⟩
    · have HRI : Aside0 (res = false) := ⟨by rw [HRES.out]; simp [h1]⟩
      go_enter Tryd.func8, Tryd.ntmps8
      go_wp2
      go_ret
      exact ⟨by rw [HRI.out]; rfl, 0, rfl⟩
  · subst hlt
    by_cases h1 : 1 ≤ lo
    · by_cases h2 : lo ≤ 9
      · obtain ⟨i, rfl⟩ := Int.eq_ofNat_of_zero_le (show 0 ≤ lo by omega)
        have hi10 : i < 10 := by omega
        obtain ⟨A, c, hc, hlc, hr⟩ := HA.out i hi10
        have HCO := Aside0.mk (containsI_any A c (aptRow i) (i : Int) w hr hlc (apt_len i))
        have HRI : Aside0 (res = hasI (aptRow i) (i : Int)) := ⟨by rw [HRES.out]; simp [h2]; omega⟩
        clear hr hlc
        obtain ⟨L, hL⟩ : ∃ L, L = aptRow i := ⟨_, rfl⟩
        rw [← hL] at HCO HRI hc
        clear hL
        go_enter Tryd.func8, Tryd.ntmps8
        go_wp2_with (go_at_call 22; refine (HCO.out).mono ?_; rintro e w' ⟨rfl, n, rfl⟩)
        go_ret
        exact ⟨by rw [HRI.out]; rfl, n, rfl⟩
      · have HRI : Aside0 (res = false) := ⟨by rw [HRES.out]; simp [h2]⟩
        go_enter Tryd.func8, Tryd.ntmps8
        go_wp2
        go_ret
        exact ⟨by rw [HRI.out]; rfl, 0, rfl⟩
    · have HRI : Aside0 (res = false) := ⟨by rw [HRES.out]; simp [h1]⟩
      go_enter Tryd.func8, Tryd.ntmps8
      go_wp2
      go_ret
      exact ⟨by rw [HRI.out]; rfl, 0, rfl⟩

theorem apart_any (a b : Int) (w : World) (h : AptAt w) : Calls Tryd.prog 8 #[.int .i64 a, .int .i64 b] w fun e w' => e = .returned (.bool (apartB a b)) ∧ ∃ n, w' = w.drewN n := by
  rcases Int.lt_trichotomy a b with hlt | rfl | hlt
  · have := (apart_core a b w h).1 hlt
    have e : apartB a b = apB a b := by unfold apartB apB; rw [Int.min_eq_left (by omega), Int.max_eq_right (by omega)]
    rw [e]
    exact this
  · have := (apart_core a a w h).2.2 rfl
    have e : apartB a a = apB a a := by unfold apartB apB; rw [Int.min_self, Int.max_self]
    rw [e]
    exact this
  · have := (apart_core b a w h).2.1 hlt
    have e : apartB a b = apB b a := by unfold apartB apB; rw [Int.min_eq_right (by omega), Int.max_eq_left (by omega)]
    rw [e]
    exact this
def refRows : List (List Int) := [[1, 2], [1, 3], [1, 4], [1, 5], [1, 6], [1, 7], [1, 8], [1, 9], [2, 3], [2, 5], [3, 5], [3, 8], [4, 5], [4, 8], [5, 6], [5, 8], [7, 9]]
theorem ref_eq (x y : Int) : refRows.any (fun q => decide (q = [x, y])) = apB x y := by
  rw [Bool.eq_iff_iff]
  by_cases hx : 1 ≤ x ∧ x ≤ 9
  · rcases (show x = 1 ∨ x = 2 ∨ x = 3 ∨ x = 4 ∨ x = 5 ∨ x = 6 ∨ x = 7 ∨ x = 8 ∨ x = 9 by omega) with rfl | rfl | rfl | rfl | rfl | rfl | rfl | rfl | rfl <;> simp [refRows, apB, hasI, aptRow] <;> omega
  · have hr : aptRow x.toNat = [] ∨ ¬ 1 ≤ x := by
      by_cases h : 1 ≤ x
      · left
        obtain ⟨i, rfl⟩ := Int.eq_ofNat_of_zero_le (show 0 ≤ x by omega)
        have : 9 < i := by omega
        rw [Int.toNat_natCast]
        unfold aptRow
        split <;> first | omega | rfl
      · exact .inr h
    have h2 : apB x y = false := by
      unfold apB
      rcases hr with h | h
      · rw [h]; simp [hasI]
      · simp [h]
    rw [h2]
    simp [refRows]
    omega
theorem refL_len : ∀ q ∈ refRows, q.length = 2 := by decide
theorem ref_loop (x y : Int) (L : List (List Int)) (hq : ∀ q ∈ L, q.length = 2) (hl : L.length ≤ 1000) (d : Nat) : ∀ (k i : Nat), i ≤ L.length → L.length - i = d → d < k → supercargoref11_Apart.l0 k x y L (i : Int) = some ((L.drop i).any fun q => decide (q = [x, y])) := by
  induction d with
  | zero =>
    intro k i h1 h2 hk
    obtain ⟨k, rfl⟩ : ∃ m, k = m + 1 := ⟨k - 1, by omega⟩
    simp only [supercargoref11_Apart.l0]
    rw [if_neg (by omega), show i = L.length by omega, List.drop_length]
    rfl
  | succ d ih =>
    intro k i h1 h2 hk
    obtain ⟨k, rfl⟩ : ∃ m, k = m + 1 := ⟨k - 1, by omega⟩
    have hlt : i < L.length := by omega
    have hq2 := hq _ (List.getElem_mem hlt)
    have hrd : rd_L2 L (i : Int) = L[i] := by
      unfold rd_L2
      rw [Int.toNat_natCast, List.getD_eq_getElem?_getD, List.getElem?_eq_getElem hlt]
      rfl
    have hdr : L.drop i = L[i] :: L.drop (i + 1) := List.drop_eq_getElem_cons hlt
    simp only [supercargoref11_Apart.l0]
    rw [if_pos (by omega), if_pos (by omega), hrd, hq2, if_pos (by omega)]
    have hnx := ih k (i + 1) (by omega) (by omega) (by omega)
    rw [wrap_one (by omega) (by omega)]
    rw [hdr, List.any_cons]
    generalize L[i] = q at hq2 ⊢
    match q, hq2 with
    | [p1, p2], _ =>
      have e0 : rd [p1, p2] 0 = p1 := rfl
      have e1 : rd [p1, p2] 1 = p2 := rfl
      rw [e0, e1]
      have hc : ((i : Int) + 1) = ((i + 1 : Nat) : Int) := by omega
      by_cases c1 : p1 = x
      · rw [if_pos c1, if_pos (by omega)]
        by_cases c2 : p2 = y
        · rw [if_pos c2]; simp [c1, c2]
        · rw [if_neg c2, hc, hnx]; simp [c1, c2]
      · rw [if_neg c1, hc, hnx]; simp [c1]
theorem refApart_any (a b : Int) (w : World) : Calls Tryd.prog 9 #[.int .i64 a, .int .i64 b] w fun e w' => e = .returned (.bool (apartB a b)) ∧ Below w.heap.size w w' := by
  refine supercargoref11_Apart.calls 20 a b (apartB a b) w ?_
  have key : ∀ x y, supercargoref11_Apart.j0 20 x y = some (apB x y) := by
    intro x y
    have := ref_loop x y refRows refL_len (by decide) refRows.length 19 0 (by decide) (by decide) (by decide)
    rw [List.drop_zero, ref_eq] at this
    exact this
  unfold supercargoref11_Apart.f
  by_cases h : a > b
  · rw [if_pos h, key]
    congr 1
    unfold apartB apB
    rw [Int.min_eq_right (by omega), Int.max_eq_left (by omega)]
  · rw [if_neg h, key]
    congr 1
    unfold apartB apB
    rw [Int.min_eq_left (by omega), Int.max_eq_right (by omega)]
theorem apart_comm (a b : Int) : apartB a b = apartB b a := by unfold apartB; rw [Int.min_comm, Int.max_comm]
theorem apart_self (a : Int) : apartB a a = false := by
  unfold apartB
  rw [Int.min_self, Int.max_self]
  have := ref_eq a a
  unfold apB at this
  rw [← this]
  rw [Bool.eq_false_iff]
  intro h
  simp [refRows] at h
  omega
theorem apart_zero (a : Int) : apartB 0 a = false := by
  unfold apartB
  have : ¬ 1 ≤ min 0 a := by omega
  simp [this]
theorem apart_one (a : Int) : apartB 1 a = (decide (2 ≤ a) && decide (a ≤ 9)) := by
  by_cases h : 1 ≤ a
  · unfold apartB
    rw [Int.min_eq_left h, Int.max_eq_right h]
    have := ref_eq 1 a
    unfold apB at this
    rw [← this, Bool.eq_iff_iff]
    simp [refRows]
    omega
  · unfold apartB
    have h1 : ¬ 1 ≤ min 1 a := by omega
    have h2 : ¬ 2 ≤ a := by omega
    simp [h1, h2]
end Go.Proofs.YtnhbbfbllkefcaaDoor
