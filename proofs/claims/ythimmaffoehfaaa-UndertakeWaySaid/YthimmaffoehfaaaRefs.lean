/- The document's look at a credit: may it live, the most and the least that may be drawn; whether terms are long, events many. Conditions: texts as a machine can hold. -/
import Derived.Test.YthimmaffoehfaaaNew
import Derived.Test.YthimmaffoehfaaaQRef
set_option linter.unusedVariables false
set_option linter.unusedSimpArgs false
set_option linter.unusedSectionVars false
namespace Go.Proofs.Ythimmaffoehfaaa
open Go.RowKit Go.Proofs.YthimmaffoehfaaaW.PrintWords Go.Proofs.YthimmaffoehfaaaW.PrintLast Go.Proofs.YthimmaffoehfaaaW.PrintMore
open Q

theorem okB_bt (s : ByteArray) (i : Nat) (h : i < s.size) : okB (s[i]'h) = okC (bt s (i : Int)) := by
  unfold okB
  rw [← bt_at s (i : Int) (by simpa using h)]
  rfl
theorem rname_loop (s : ByteArray) (hs : s.size ≤ 140737488351232) (d : Nat) : ∀ (k i : Nat), i ≤ s.size → s.size - i = d → d < k → supercargoref06_Name.l0 k s (i : Int) = some ((s.data.toList.drop i).all okB && (decide (1 ≤ s.size) && decide (s.size ≤ 16))) := by
  have hlen : s.data.toList.length = s.size := Array.length_toList
  induction d with
  | zero =>
    intro k i hi hd hk
    obtain ⟨k, rfl⟩ : ∃ m, k = m + 1 := ⟨k - 1, by omega⟩
    rw [supercargoref06_Name.l0, if_neg (by omega), show s.data.toList.drop i = [] from List.drop_eq_nil_of_le (by omega)]
    by_cases h1 : 1 ≤ s.size
    · rw [if_pos (by omega)]
      by_cases h2 : s.size ≤ 16
      · simp [h1, h2]; omega
      · simp [h1, h2]; omega
    · rw [if_neg (by omega)]; simp [h1]
  | succ d ih =>
    intro k i hi hd hk
    obtain ⟨k, rfl⟩ : ∃ m, k = m + 1 := ⟨k - 1, by omega⟩
    have hlt : i < s.size := by omega
    have ih := ih k (i + 1) (by omega) (by omega) (by omega)
    have hdr : s.data.toList.drop i = s[i]'hlt :: s.data.toList.drop (i + 1) := by
      rw [List.drop_eq_getElem_cons (by omega)]; rfl
    rw [hdr, List.all_cons, okB_bt s i hlt]
    rw [supercargoref06_Name.l0, if_pos (by omega), if_pos (by omega), wrap_one (by omega) (by omega), show ((i : Int) + 1) = ((i + 1 : Nat) : Int) by omega, ih]
    unfold okC
    generalize bt s (i : Int) = c
    by_cases h1 : 97 ≤ c
    · by_cases h2 : c ≤ 122
      · simp [h1, h2]
      · have h3 : ¬ c ≤ 57 := by omega
        have h4 : ¬ c = 45 := by omega
        simp [h1, h2, h3, h4]
    · by_cases h3 : 48 ≤ c
      · by_cases h4 : c ≤ 57
        · simp [h1, h3, h4]
        · have h5 : ¬ c = 45 := by omega
          simp [h1, h3, h4, h5]
      · by_cases h5 : c = 45
        · simp [h5]
        · simp [h1, h3, h5]
theorem rname_any (s : ByteArray) (w : World) (hs : s.size ≤ 140737488351232) : Calls Try.prog 24 #[.string s] w fun e w' => e = .returned (.bool (nameB s)) ∧ ∃ n, w' = w.drewN n := by
  have h := rname_loop s hs s.size (s.size + 1) 0 (by omega) (by omega) (by omega)
  refine (supercargoref06_Name.calls (s.size + 1) s (nameB s) w (by unfold supercargoref06_Name.f; rw [show (0 : Int) = ((0 : Nat) : Int) from rfl, h, List.drop_zero]; unfold nameB; rw [Bool.and_comm])).mono ?_
  rintro e w' ⟨rfl, ⟨n, rfl⟩⟩
  exact ⟨rfl, n, rfl⟩
theorem nil143 (w : World) : Kd.C k143 w none ([] : List S143).length [] := ⟨rfl, by simp, fun h => absurd h (by simp)⟩
theorem rbounds_any (t : Tm) (w : World) : Calls Try.prog 25 #[crV t] w fun e w' => e = .returned (.bool (boundsB t)) ∧ Below w.heap.size w w' := by
  refine (supercargoref30_Bounds.calls noT t.app t.ben t.iss t.cnf noT noT noT t.sum t.abv t.blw 0 t.exp 0 0 t.prt false none 0 [] (boundsB t) w (nil143 w) (by simp) ?_).mono ?_
  · unfold supercargoref30_Bounds.f boundsB withinB
    by_cases a1 : 1 ≤ t.sum
    · by_cases a2 : t.sum ≤ 1099511627776
      · by_cases a3 : 0 ≤ t.abv
        · by_cases a4 : t.abv ≤ 1000
          · by_cases a5 : 0 ≤ t.blw
            · by_cases a6 : t.blw ≤ 1000
              · by_cases a7 : 0 ≤ t.exp
                · simp [a1, a2, a3, a4, a5, a6, a7]
                · simp [a1, a2, a3, a4, a5, a6, a7]
              · simp [a1, a2, a3, a4, a5, a6]
            · simp [a1, a2, a3, a4, a5]
          · simp [a1, a2, a3, a4]
        · simp [a1, a2, a3]
      · simp [a1, a2]
    · simp [a1]
  · rintro e w' h
    exact h
theorem rmost_any (t : Tm) (w : World) (hb : boundsB t = true) : Calls Try.prog 15 #[crV t] w fun e w' => e = .returned (.int .i64 (mostI t)) ∧ Below w.heap.size w w' := by
  obtain ⟨q1, q2, q3, q4, _⟩ := bounds_facts hb
  obtain ⟨m1, m2⟩ := most_facts hb
  refine (supercargoref30_Most.calls noT t.app t.ben t.iss t.cnf noT noT noT t.sum t.abv t.blw 0 t.exp 0 0 t.prt false none 0 [] (mostI t) w (nil143 w) (by simp) ?_).mono fun e w' h => h
  unfold supercargoref30_Most.f mostI
  have e1 : wrap64 (1000 + t.abv) = 1000 + t.abv := by unfold wrap64; omega
  rw [e1]
  have e2 : wrap64 (t.sum * (1000 + t.abv)) = t.sum * (1000 + t.abv) := by unfold wrap64; omega
  rw [e2, Int.tdiv_eq_ediv_of_nonneg (by omega)]
  have e3 : wrap64 (t.sum * (1000 + t.abv) / 1000) = t.sum * (1000 + t.abv) / 1000 := by unfold wrap64; omega
  rw [e3]
theorem rleast_any (t : Tm) (w : World) (hb : boundsB t = true) : Calls Try.prog 18 #[crV t] w fun e w' => e = .returned (.int .i64 (leastI t)) ∧ Below w.heap.size w w' := by
  obtain ⟨q1, q2, _, _, q5, q6, _⟩ := bounds_facts hb
  obtain ⟨m1, m2⟩ := least_facts hb
  refine (supercargoref30_Least.calls noT t.app t.ben t.iss t.cnf noT noT noT t.sum t.abv t.blw 0 t.exp 0 0 t.prt false none 0 [] (leastI t) w (nil143 w) (by simp) ?_).mono fun e w' h => h
  unfold supercargoref30_Least.f leastI
  have e1 : wrap64 (1000 - t.blw) = 1000 - t.blw := by unfold wrap64; omega
  rw [e1]
  have e2 : wrap64 (t.sum * (1000 - t.blw)) = t.sum * (1000 - t.blw) := by unfold wrap64; omega
  rw [e2]
  have e3 : wrap64 (t.sum * (1000 - t.blw) + 999) = t.sum * (1000 - t.blw) + 1000 - 1 := by unfold wrap64; omega
  rw [e3, Int.tdiv_eq_ediv_of_nonneg (by omega)]
  have e4 : wrap64 ((t.sum * (1000 - t.blw) + 1000 - 1) / 1000) = (t.sum * (1000 - t.blw) + 1000 - 1) / 1000 := by unfold wrap64; omega
  rw [e4]

def longB (t : Tm) : Bool := decide (100 < t.iss.size) || decide (100 < t.app.size) || decide (100 < t.ben.size) || decide (100 < t.cnf.size)
theorem long_any (t : Tm) (w : World) : Calls Try.prog 8 #[.agg (teCells t)] w fun e w' => e = .returned (.bool (longB t)) ∧ Below w.heap.size w w' := by
  refine (supercargolaw34_Terms_long.calls t.iss t.app t.ben t.cnf t.sum t.abv t.blw t.exp t.prt (longB t) w ?_).mono fun e w' h => h
  unfold supercargolaw34_Terms_long.f longB
  by_cases a1 : 100 < t.iss.size
  · rw [if_pos (by omega)]; simp [a1]
  · rw [if_neg (by omega)]
    by_cases a2 : 100 < t.app.size
    · rw [if_pos (by omega)]; simp [a2]
    · rw [if_neg (by omega)]
      by_cases a3 : 100 < t.ben.size
      · rw [if_pos (by omega)]; simp [a3]
      · rw [if_neg (by omega)]
        by_cases a4 : 100 < t.cnf.size
        · simp [a1, a2, a3, a4]; omega
        · simp [a1, a2, a3, a4]; omega

def heavyB (l : List S40) (m : Nat) : Bool := decide (m < l.length) || l.any fun x => decide (100 < x.f1.size)
theorem rd_ev {l : List S40} {i : Nat} (h : i < l.length) : l.drop i = rd_T40 l (i : Int) :: l.drop (i + 1) := by
  rw [List.drop_eq_getElem_cons h]
  unfold rd_T40
  rw [Int.toNat_natCast, List.getD_eq_getElem?_getD, List.getElem?_eq_getElem h]
  rfl
theorem heavy_loop (l : List S40) (hl : l.length ≤ 9223372036854775000) (d : Nat) : ∀ (k i : Nat), i ≤ l.length → l.length - i = d → d < k → supercargolaw34_heavy.l0 k l (i : Int) = some ((l.drop i).any fun x => decide (100 < x.f1.size)) := by
  induction d with
  | zero =>
    intro k i hi hd hk
    obtain ⟨k, rfl⟩ : ∃ m, k = m + 1 := ⟨k - 1, by omega⟩
    rw [supercargolaw34_heavy.l0, if_neg (by omega), show l.drop i = [] from List.drop_eq_nil_of_le (by omega)]
    rfl
  | succ d ih =>
    intro k i hi hd hk
    obtain ⟨k, rfl⟩ : ∃ m, k = m + 1 := ⟨k - 1, by omega⟩
    have hlt : i < l.length := by omega
    have ih := ih k (i + 1) (by omega) (by omega) (by omega)
    rw [supercargolaw34_heavy.l0, if_pos (by omega), if_pos (by omega), wrap_one (by omega) (by omega), show ((i : Int) + 1) = ((i + 1 : Nat) : Int) by omega, ih, rd_ev hlt, List.any_cons]
    by_cases h : 100 < (rd_T40 l (i : Int)).f1.size
    · rw [if_pos (by omega)]; simp [h]
    · rw [if_neg (by omega)]; simp [h]
theorem heavy_any (A : Option Addr) (c : Nat) (l : List S40) (m : Nat) (w : World) (hr : Kd.C k40 w A l.length l) (hc : l.length ≤ c) (hm : m ≤ 1000000) :
    Calls Try.prog 9 #[.slice A l.length c, .int .i64 m] w fun e w' => e = .returned (.bool (heavyB l m)) ∧ ∃ n, w' = w.drewN n := by
  refine (supercargolaw34_heavy.calls (l.length + 1) A c l (m : Int) (heavyB l m) w hr hc ?_).mono ?_
  · unfold supercargolaw34_heavy.f heavyB
    by_cases h : m < l.length
    · rw [if_pos (by omega)]; simp [h]
    · rw [if_neg (by omega), show (0 : Int) = ((0 : Nat) : Int) from rfl, heavy_loop l (by omega) l.length _ 0 (by omega) (by omega) (by omega)]
      simp [h]
  · rintro e w' ⟨rfl, ⟨n, rfl⟩⟩
    exact ⟨rfl, n, rfl⟩
end Go.Proofs.Ythimmaffoehfaaa
