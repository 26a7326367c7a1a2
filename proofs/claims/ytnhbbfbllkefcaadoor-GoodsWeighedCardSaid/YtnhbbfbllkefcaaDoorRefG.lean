/- The document's functions on goods and lots: what they answer. Conditions: few goods, short codes. -/
import Derived.Test.YtnhbbfbllkefcaaDoorAwake
set_option linter.unusedVariables false
set_option linter.unusedSimpArgs false
set_option linter.unusedSectionVars false
namespace Go.Proofs.YtnhbbfbllkefcaaDoor
open Go.RowKit Go.Proofs.YtnhbbfbllkefcaaDoorW.PrintWords Go.Proofs.YtnhbbfbllkefcaaDoorW.PrintLast Go.Proofs.YtnhbbfbllkefcaaDoorW.PrintMore
open Q

theorem okB_bt (s : ByteArray) (i : Nat) (h : i < s.size) : okB (s[i]'h) = okC (bt s (i : Int)) := by
  unfold okB
  rw [← bt_at s (i : Int) (by simpa using h)]
  rfl
theorem rname_loop (s : ByteArray) (hs : s.size ≤ 140737488351232) (d : Nat) : ∀ (k i : Nat), i ≤ s.size → s.size - i = d → d < k → supercargoref03_Name.l0 k s (i : Int) = some ((s.data.toList.drop i).all okB && (decide (1 ≤ s.size) && decide (s.size ≤ 16))) := by
  have hlen : s.data.toList.length = s.size := Array.length_toList
  induction d with
  | zero =>
    intro k i hi hd hk
    obtain ⟨k, rfl⟩ : ∃ m, k = m + 1 := ⟨k - 1, by omega⟩
    rw [supercargoref03_Name.l0, if_neg (by omega), show s.data.toList.drop i = [] from List.drop_eq_nil_of_le (by omega)]
    by_cases h1 : 1 ≤ s.size
    · rw [if_pos (by omega)]
      by_cases h2 : s.size ≤ 16
      · simp [h1, h2]; omega
      · simp [h1, h2]; omega
    · rw [if_neg (by omega)]; simp [h1]
  | succ d ih =>
    intro k i hi hd hk
    obtain ⟨k, rfl⟩ : ∃ m, k = m + 1 := ⟨k - 1, by omega⟩
    have hlt : i < s.size := by omega
    have ih := ih k (i + 1) (by omega) (by omega) (by omega)
    have hdr : s.data.toList.drop i = s[i]'hlt :: s.data.toList.drop (i + 1) := by
      rw [List.drop_eq_getElem_cons (by omega)]; rfl
    rw [hdr, List.all_cons, okB_bt s i hlt]
    rw [supercargoref03_Name.l0, if_pos (by omega), if_pos (by omega), wrap_one (by omega) (by omega), show ((i : Int) + 1) = ((i + 1 : Nat) : Int) by omega, ih]
    unfold okC supercargoref03_letter.f supercargoref03_digit.f
    generalize bt s (i : Int) = c
    by_cases h1 : 97 ≤ c
    · by_cases h2 : c ≤ 122
      · simp [h1, h2]
      · have h3 : ¬ c ≤ 57 := by omega
        have h4 : ¬ c = 45 := by omega
        have h5 : 48 ≤ c := by omega
        simp [h1, h2, h3, h4, h5]
    · by_cases h3 : 48 ≤ c
      · by_cases h4 : c ≤ 57
        · simp [h1, h3, h4]
        · have h5 : ¬ c = 45 := by omega
          simp [h1, h3, h4, h5]
      · by_cases h5 : c = 45
        · simp [h5]
        · simp [h1, h3, h5]
theorem rname_eq (s : ByteArray) (hs : s.size ≤ 140737488351232) (k : Nat) (hk : s.size < k) : supercargoref03_Name.f k s = some (nameB s) := by
  have h := rname_loop s hs s.size k 0 (by omega) (by omega) hk
  unfold supercargoref03_Name.f
  rw [show (0 : Int) = ((0 : Nat) : Int) from rfl, h, List.drop_zero]
  unfold nameB
  rw [Bool.and_comm]
theorem rmay_eq (x : S36) (hs : x.f0.size ≤ 140737488351232) (k : Nat) (hk : x.f0.size < k) : supercargoref11_May.f k x.f0 x.f1 x.f2 x.f3 = some (mayG x) := by
  unfold supercargoref11_May.f mayG cntB
  rw [rname_eq _ hs k hk]
  simp only [Option.bind_some]
  cases nameB x.f0 with
  | false => simp
  | true =>
    by_cases a1 : 0 ≤ x.f1
    · by_cases a2 : x.f1 ≤ 9
      · by_cases a3 : 1 ≤ x.f2
        · by_cases a4 : x.f2 ≤ 1048576
          · by_cases a5 : 1 ≤ x.f3
            · simp [a1, a2, a3, a4, a5]
            · simp [a1, a2, a3, a4, a5]
          · simp [a1, a2, a3, a4]
        · simp [a1, a2, a3]
      · simp [a1, a2]
    · simp [a1]
theorem rmay_any (x : S36) (w : World) (hs : x.f0.size ≤ 140737488351232) : Calls Tryd.prog 16 #[vG x] w fun e w' => e = .returned (.bool (mayG x)) ∧ Below w.heap.size w w' :=
  supercargoref11_May.calls (x.f0.size + 1) x.f0 x.f1 x.f2 x.f3 (mayG x) w (rmay_eq x hs _ (by omega))
def fewG (l : List S36) : Bool := decide (l.length ≤ 41) && l.all fun x => decide (x.f0.size ≤ 60)
theorem fewG_loop (l : List S36) (d : Nat) : ∀ (k i : Nat), i ≤ l.length → l.length - i = d → d < k → i ≤ 41 → supercargolaw11_few.l0 k l (i : Int) = some (decide (l.length ≤ 41) && (l.drop i).all fun x => decide (x.f0.size ≤ 60)) := by
  induction d with
  | zero =>
    intro k i hi hd hk h41
    obtain ⟨k, rfl⟩ : ∃ m, k = m + 1 := ⟨k - 1, by omega⟩
    rw [supercargolaw11_few.l0, if_neg (by omega), show l.drop i = [] from List.drop_eq_nil_of_le (by omega)]
    have : l.length ≤ 41 := by omega
    simp [this]
  | succ d ih =>
    intro k i hi hd hk h41
    obtain ⟨k, rfl⟩ : ∃ m, k = m + 1 := ⟨k - 1, by omega⟩
    have hlt : i < l.length := by omega
    rw [supercargolaw11_few.l0, if_pos (by omega)]
    by_cases h40 : i = 41
    · rw [if_pos (by omega)]
      have : ¬ l.length ≤ 41 := by omega
      simp [this]
    · have ih := ih k (i + 1) (by omega) (by omega) (by omega) (by omega)
      rw [if_neg (by omega), if_pos (by omega), rd_G hlt, List.all_cons]
      by_cases h60 : (rd_T36 l (i : Int)).f0.size ≤ 60
      · rw [if_neg (by omega), wrap_one (by omega) (by omega), show ((i : Int) + 1) = ((i + 1 : Nat) : Int) by omega, ih]
        simp [h60]
      · rw [if_pos (by omega)]
        simp [h60]
theorem fewG_any (A : Option Addr) (c : Nat) (l : List S36) (w : World) (hr : Kd.C k36 w A l.length l) (hc : l.length ≤ c) : Calls Tryd.prog 10 #[.slice A l.length c] w fun e w' => e = .returned (.bool (fewG l)) ∧ ∃ n, w' = w.drewN n := by
  have h := fewG_loop l l.length (l.length + 1) 0 (by omega) (by omega) (by omega) (by omega)
  refine (supercargolaw11_few.calls (l.length + 1) A c l (fewG l) w hr hc (by unfold supercargolaw11_few.f; rw [show (0 : Int) = ((0 : Nat) : Int) from rfl, h, List.drop_zero]; rfl)).mono ?_
  rintro e w' ⟨rfl, ⟨n, rfl⟩⟩
  exact ⟨rfl, n, rfl⟩
/-- The place of a code's first good. -/
def placeG (l : List S36) (code : ByteArray) : Int := if (findG l code).isSome then ((l.findIdx fun x => decide (x.f0 = code) : Nat) : Int) else -1
theorem bytes_inj {a b : ByteArray} (h : a.toList = b.toList) : a = b := bytes_toList_inj h
theorem find_loop (l : List S36) (code : ByteArray) (hl : l.length ≤ 9223372036854775000) (d : Nat) : ∀ (k i : Nat), i ≤ l.length → l.length - i = d → d < k → supercargoref11_Find.l0 k l code (i : Int) = some (if (findG (l.drop i) code).isSome then (i : Int) + (((l.drop i).findIdx fun x => decide (x.f0 = code) : Nat) : Int) else -1) := by
  induction d with
  | zero =>
    intro k i hi hd hk
    obtain ⟨k, rfl⟩ : ∃ m, k = m + 1 := ⟨k - 1, by omega⟩
    rw [supercargoref11_Find.l0, if_neg (by omega), show l.drop i = [] from List.drop_eq_nil_of_le (by omega)]
    rfl
  | succ d ih =>
    intro k i hi hd hk
    obtain ⟨k, rfl⟩ : ∃ m, k = m + 1 := ⟨k - 1, by omega⟩
    have hlt : i < l.length := by omega
    have ih := ih k (i + 1) (by omega) (by omega) (by omega)
    rw [supercargoref11_Find.l0, if_pos (by omega), if_pos (by omega), rd_G hlt]
    generalize rd_T36 l (i : Int) = x
    by_cases h : x.f0 = code
    · rw [if_pos (by rw [h])]
      unfold findG
      rw [List.find?_cons_of_pos (by simpa using h), List.findIdx_cons]
      simp [h]
    · rw [if_neg (fun e => h (bytes_inj e)), wrap_one (by omega) (by omega), show ((i : Int) + 1) = ((i + 1 : Nat) : Int) by omega, ih]
      unfold findG
      rw [List.find?_cons_of_neg (by simpa using h), List.findIdx_cons]
      have hd2 : decide (x.f0 = code) = false := by simpa using h
      rw [hd2]
      simp only [cond_false]
      congr 1
      split
      · omega
      · rfl
theorem find_eq (l : List S36) (code : ByteArray) (hl : l.length ≤ 9223372036854775000) (k : Nat) (hk : l.length < k) : supercargoref11_Find.f k l code = some (placeG l code) := by
  have h := find_loop l code hl l.length k 0 (by omega) (by omega) hk
  unfold supercargoref11_Find.f placeG
  rw [show (0 : Int) = ((0 : Nat) : Int) from rfl, h, List.drop_zero]
  simp
theorem find_any (A : Option Addr) (c : Nat) (l : List S36) (code : ByteArray) (w : World) (hr : Kd.C k36 w A l.length l) (hc : l.length ≤ c) (hl : l.length ≤ 9223372036854775000) : Calls Tryd.prog 19 #[.slice A l.length c, .string code] w fun e w' => e = .returned (.int .i64 (placeG l code)) ∧ ∃ n, w' = w.drewN n := by
  refine (supercargoref11_Find.calls (l.length + 1) A c l code _ w hr hc (find_eq l code hl _ (by omega))).mono ?_
  rintro e w' ⟨rfl, ⟨n, rfl⟩⟩
  exact ⟨rfl, n, rfl⟩
theorem place_neg {l : List S36} {code : ByteArray} (h : findG l code = none) : placeG l code = -1 := by unfold placeG; rw [h]; rfl
theorem place_pos {l : List S36} {code : ByteArray} {y : S36} (h : findG l code = some y) : ∃ i : Nat, placeG l code = (i : Int) ∧ l[i]? = some y ∧ i < l.length := by
  refine ⟨_, by unfold placeG; rw [h]; rfl, ?_, ?_⟩
  · unfold findG at h
    rw [List.find?_eq_some_iff_getElem] at h
    obtain ⟨h1, i, hi, h2, h3⟩ := h
    have : l.findIdx (fun x => decide (x.f0 = code)) = i := by
      rw [List.findIdx_eq hi]
      refine ⟨by rw [h2]; exact h1, fun j hj => by have := h3 j hj; simpa using this⟩
    rw [this, List.getElem?_eq_getElem hi, h2]
  · rw [List.findIdx_lt_length]
    exact ⟨y, (find_mem h).1, by simp [(find_mem h).2]⟩
theorem place_sign (l : List S36) (code : ByteArray) : (placeG l code ≥ 0) ↔ (findG l code).isSome = true := by
  cases h : findG l code with
  | none => rw [place_neg h]; simp
  | some y => obtain ⟨i, hi, _⟩ := place_pos h; rw [hi]; simp
theorem once_loop (l : List S36) (hl : l.length ≤ 41) (d : Nat) : ∀ (k i : Nat), i ≤ l.length → l.length - i = d → d + 50 < k → supercargoref11_New.l1 k l (i : Int) = some (if onceG (l.take i) (l.drop i) = false then 5 else 0) := by
  induction d with
  | zero =>
    intro k i hi hd hk
    obtain ⟨k, rfl⟩ : ∃ m, k = m + 1 := ⟨k - 1, by omega⟩
    rw [supercargoref11_New.l1, if_neg (by omega), if_neg (by omega), show l.drop i = [] from List.drop_eq_nil_of_le (by omega)]
    rfl
  | succ d ih =>
    intro k i hi hd hk
    obtain ⟨k, rfl⟩ : ∃ m, k = m + 1 := ⟨k - 1, by omega⟩
    have hlt : i < l.length := by omega
    have ih := ih k (i + 1) (by omega) (by omega) (by omega)
    have htk : l.take (i + 1) = l.take i ++ [rd_T36 l (i : Int)] := by rw [List.take_add_one, get_G hlt]; rfl
    rw [supercargoref11_New.l1, if_pos (by omega), if_pos (by omega), if_pos (by omega), Int.toNat_natCast, find_eq _ _ (by rw [List.length_take]; omega) _ (by rw [List.length_take]; omega)]
    simp only [Option.bind_some]
    rw [rd_G hlt, onceG, ← htk]
    generalize rd_T36 l (i : Int) = x
    have hsg := place_sign (l.take i) x.f0
    cases hf : findG (l.take i) x.f0 with
    | none =>
      rw [hf] at hsg
      rw [if_neg (by rw [hsg]; simp), wrap_one (by omega) (by omega), show ((i : Int) + 1) = ((i + 1 : Nat) : Int) by omega, ih]
      rfl
    | some y =>
      rw [hf] at hsg
      rw [if_pos (by rw [hsg]; rfl)]
      rfl
theorem new_loop (l : List S36) (hf : fewG l = true) (d : Nat) : ∀ (k i : Nat), i ≤ l.length → l.length - i = d → d + 120 < k → supercargoref11_New.l0 k l (i : Int) = some (if (l.drop i).any (fun x => !mayG x) then 1 else if onceG [] l = false then 5 else 0) := by
  have hl : l.length ≤ 41 := by unfold fewG at hf; simp only [Bool.and_eq_true, decide_eq_true_eq] at hf; exact hf.1
  have hs : ∀ x ∈ l, x.f0.size ≤ 60 := by unfold fewG at hf; simp only [Bool.and_eq_true, List.all_eq_true, decide_eq_true_eq] at hf; exact hf.2
  induction d with
  | zero =>
    intro k i hi hd hk
    obtain ⟨k, rfl⟩ : ∃ m, k = m + 1 := ⟨k - 1, by omega⟩
    have := once_loop l hl l.length k 0 (by omega) (by omega) (by omega)
    rw [supercargoref11_New.l0, if_neg (by omega), show (0 : Int) = ((0 : Nat) : Int) from rfl, this, show l.drop i = [] from List.drop_eq_nil_of_le (by omega)]
    rfl
  | succ d ih =>
    intro k i hi hd hk
    obtain ⟨k, rfl⟩ : ∃ m, k = m + 1 := ⟨k - 1, by omega⟩
    have hlt : i < l.length := by omega
    have ih := ih k (i + 1) (by omega) (by omega) (by omega)
    have hx := hs _ (List.mem_of_getElem? (get_G hlt))
    rw [supercargoref11_New.l0, if_pos (by omega), if_pos (by omega), rmay_eq _ (by omega) k (by omega)]
    simp only [Option.bind_some]
    rw [rd_G hlt, List.any_cons]
    cases mayG (rd_T36 l (i : Int)) with
    | false => simp
    | true =>
      rw [if_pos rfl, wrap_one (by omega) (by omega), show ((i : Int) + 1) = ((i + 1 : Nat) : Int) by omega, ih]
      simp
theorem few_facts {l : List S36} (hf : fewG l = true) : l.length ≤ 41 ∧ ∀ x ∈ l, x.f0.size ≤ 60 := by
  unfold fewG at hf
  simp only [Bool.and_eq_true, List.all_eq_true, decide_eq_true_eq] at hf
  exact hf
theorem rnew_any (A : Option Addr) (c : Nat) (l : List S36) (w : World) (hr : Kd.C k36 w A l.length l) (hc : l.length ≤ c) (hf : fewG l = true) : Calls Tryd.prog 17 #[.slice A l.length c] w fun e w' => e = .returned (.int .i64 (errN l)) ∧ Below w.heap.size w w' := by
  have h := new_loop l hf l.length (l.length + 200) 0 (by omega) (by omega) (by omega)
  refine supercargoref11_New.calls (l.length + 200) A c l (errN l) w hr hc ?_
  unfold supercargoref11_New.f
  rw [show (0 : Int) = ((0 : Nat) : Int) from rfl, h, List.drop_zero]
  have := (few_facts hf).1
  unfold errN
  have hb : ¬ 4096 < l.length := by omega
  rw [if_neg hb]
end Go.Proofs.YtnhbbfbllkefcaaDoor
