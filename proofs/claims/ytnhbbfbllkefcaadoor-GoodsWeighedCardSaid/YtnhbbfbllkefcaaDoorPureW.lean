/- What lots weigh in parts, joined, with a piece more: the plain law. Conditions: few lots. -/
import Derived.Test.YtnhbbfbllkefcaaDoorRefG
set_option linter.unusedVariables false
set_option linter.unusedSimpArgs false
set_option linter.unusedSectionVars false
namespace Go.Proofs.YtnhbbfbllkefcaaDoor
open Go.RowKit Go.Proofs.YtnhbbfbllkefcaaDoorW.PrintWords Go.Proofs.YtnhbbfbllkefcaaDoorW.PrintLast Go.Proofs.YtnhbbfbllkefcaaDoorW.PrintMore
open Q

/-- What a piece of a code weighs. -/
def wK (M : List S36) (k : ByteArray) : Int := wOf M ⟨k, 0⟩
theorem wOf_wK (M : List S36) (x : S38) : wOf M x = wK M x.f0 := rfl
/-- All that lots weigh. -/
def sumW (M : List S36) : List S38 → Int
  | [] => 0
  | x :: l => x.f1 * wK M x.f0 + sumW M l
theorem sumW_append (M : List S36) (l m : List S38) : sumW M (l ++ m) = sumW M l + sumW M m := by
  induction l with
  | nil => simp [sumW]
  | cons x l ih => rw [List.cons_append, sumW, sumW, ih]; omega
theorem wK_nonneg {M : List S36} (h : AllMay M) (k : ByteArray) : 0 ≤ wK M k := (wOf_le h ⟨k, 0⟩).1
theorem sumW_nonneg {M : List S36} (h : AllMay M) {l : List S38} (hl : ∀ x ∈ l, 0 ≤ x.f1) : 0 ≤ sumW M l := by
  induction l with
  | nil => simp [sumW]
  | cons x l ih =>
    have h1 := ih fun y hy => hl y (by simp [hy])
    have h2 : 0 ≤ x.f1 * wK M x.f0 := Int.mul_nonneg (hl x (by simp)) (wK_nonneg h _)
    rw [sumW]
    omega
theorem sumF_eq {M : List S36} (h : AllMay M) (l : List S38) : ∀ s, (∀ x ∈ l, 0 ≤ x.f1) → 0 ≤ s → s ≤ 1099511627776 → sumF M s l = if s + sumW M l ≤ 1099511627776 then (s + sumW M l, 0) else (0, 3) := by
  induction l with
  | nil => intro s _ h0 h1; rw [sumF, sumW, if_pos (by omega)]; simp
  | cons x l ih =>
    intro s hl h0 h1
    have hn := sumW_nonneg h (l := l) fun y hy => hl y (by simp [hy])
    have h2 : 0 ≤ x.f1 * wK M x.f0 := Int.mul_nonneg (hl x (by simp)) (wK_nonneg h _)
    rw [sumF, sumW, wOf_wK]
    generalize x.f1 * wK M x.f0 = p at h2 ⊢
    by_cases hb : 1099511627776 < s + p
    · rw [if_pos hb, if_neg (by omega)]
    · rw [if_neg hb, ih (s + p) (fun y hy => hl y (by simp [hy])) (by omega) (by omega)]
      by_cases hc : s + p + sumW M l ≤ 1099511627776
      · rw [if_pos hc, if_pos (by omega)]; congr 1; omega
      · rw [if_neg hc, if_neg (by omega)]
/-- May each lot be, and is each one's good there? -/
def GoodL (M : List S36) (l : List S38) : Prop := ∀ x ∈ l, lotB x = true ∧ missB M x = false
theorem known_iff (M : List S36) (l : List S38) : knownE M l = 0 ↔ GoodL M l := by
  unfold knownE GoodL
  constructor
  · intro h x hx
    by_cases ha : l.any (fun x => !lotB x) = true
    · rw [if_pos ha] at h; cases h
    · rw [if_neg ha] at h
      by_cases hb : l.any (missB M) = true
      · rw [if_pos hb] at h; cases h
      · constructor
        · cases hl : lotB x with
          | true => rfl
          | false => exact absurd (List.any_eq_true.2 ⟨x, hx, by simp [hl]⟩) ha
        · cases hm : missB M x with
          | false => rfl
          | true => exact absurd (List.any_eq_true.2 ⟨x, hx, hm⟩) hb
  · intro h
    have h1 : l.any (fun x => !lotB x) = false := by
      rw [List.any_eq_false]
      intro x hx
      simp [(h x hx).1]
    have h2 : l.any (missB M) = false := by
      rw [List.any_eq_false]
      intro x hx
      simp [(h x hx).2]
    rw [h1, h2]
    rfl
theorem weight_good {M : List S36} (h : AllMay M) {l : List S38} (hg : GoodL M l) : weightR M l = if sumW M l ≤ 1099511627776 then (sumW M l, 0) else (0, 3) := by
  unfold weightR
  rw [if_pos ((known_iff M l).2 hg), sumF_eq h l 0 (fun x hx => by have := lot_le (hg x hx).1; omega) (by omega) (by omega)]
  simp
theorem weight_zero {M : List S36} (h : AllMay M) {l : List S38} (hne : (weightR M l).2 ≠ 0) : (weightR M l).1 = 0 := by
  by_cases hk : knownE M l = 0
  · rw [weight_good h ((known_iff M l).1 hk)] at hne ⊢
    by_cases hs : sumW M l ≤ 1099511627776
    · rw [if_pos hs] at hne; exact absurd rfl hne
    · rw [if_neg hs]
  · unfold weightR
    rw [if_neg hk]
theorem weight_ok {M : List S36} (h : AllMay M) {l : List S38} (he : (weightR M l).2 = 0) : GoodL M l ∧ sumW M l ≤ 1099511627776 ∧ (weightR M l).1 = sumW M l := by
  by_cases hk : knownE M l = 0
  · have hg := (known_iff M l).1 hk
    rw [weight_good h hg] at he ⊢
    by_cases hs : sumW M l ≤ 1099511627776
    · rw [if_pos hs]; exact ⟨hg, hs, rfl⟩
    · rw [if_neg hs] at he; cases he
  · unfold weightR at he
    rw [if_neg hk] at he
    exact absurd he hk
/-- Both parts. -/
theorem weight_parts {M : List S36} (h : AllMay M) {l : List S38} (he : (weightR M l).2 = 0) (cut : Nat) :
    (weightR M (l.take cut)).2 = 0 ∧ (weightR M (l.drop cut)).2 = 0 ∧ (weightR M (l.take cut)).1 + (weightR M (l.drop cut)).1 = (weightR M l).1 ∧ 0 ≤ (weightR M (l.take cut)).1 ∧ 0 ≤ (weightR M (l.drop cut)).1 ∧ (weightR M l).1 ≤ 1099511627776 := by
  obtain ⟨hg, hs, hw⟩ := weight_ok h he
  have ht : GoodL M (l.take cut) := fun x hx => hg x (List.mem_of_mem_take hx)
  have hd : GoodL M (l.drop cut) := fun x hx => hg x (List.mem_of_mem_drop hx)
  have hsum : sumW M (l.take cut) + sumW M (l.drop cut) = sumW M l := by rw [← sumW_append, List.take_append_drop]
  have n1 := sumW_nonneg h (l := l.take cut) fun x hx => by have := lot_le (ht x hx).1; omega
  have n2 := sumW_nonneg h (l := l.drop cut) fun x hx => by have := lot_le (hd x hx).1; omega
  rw [weight_good h ht, weight_good h hd, if_pos (by omega), if_pos (by omega), hw]
  exact ⟨rfl, rfl, hsum, n1, n2, hs⟩
/-- A piece more. -/
theorem weight_more {M : List S36} (h : AllMay M) {l : List S38} (he : (weightR M l).2 = 0) {y : S36} (hy : findG M y.f0 = some y) :
    weightR M (l ++ [⟨y.f0, 1⟩]) = if (weightR M l).1 + y.f2 ≤ 1099511627776 then ((weightR M l).1 + y.f2, 0) else (0, 3) := by
  obtain ⟨hg, hs, hw⟩ := weight_ok h he
  have hym := h y (find_mem hy).1
  have hn : nameB y.f0 = true := by
    unfold mayG at hym
    simp only [Bool.and_eq_true] at hym
    exact hym.1.1.1.1
  have hg2 : GoodL M (l ++ [⟨y.f0, 1⟩]) := by
    intro x hx
    rcases List.mem_append.1 hx with hx | hx
    · exact hg x hx
    · obtain rfl : x = ⟨y.f0, 1⟩ := by simpa using hx
      refine ⟨by unfold lotB cntB; simp [hn], ?_⟩
      unfold missB
      rw [hy]
      have h1 : 1 ≤ y.f0.size := by
        unfold nameB at hn
        simp only [Bool.and_eq_true, decide_eq_true_eq] at hn
        exact hn.1.1
      show y.f0.toList.isEmpty = false
      cases hl : y.f0.toList with
      | nil =>
        have : y.f0.toList.length = y.f0.size := by rw [ByteArray.toList_eq]; exact Array.length_toList
        rw [hl] at this
        simp at this
        omega
      | cons a b => rfl
  rw [weight_good h hg2, sumW_append, hw]
  have : sumW M [⟨y.f0, 1⟩] = y.f2 := by
    simp only [sumW, wK, wOf, hy]
    omega
  rw [this]
end Go.Proofs.YtnhbbfbllkefcaaDoor
