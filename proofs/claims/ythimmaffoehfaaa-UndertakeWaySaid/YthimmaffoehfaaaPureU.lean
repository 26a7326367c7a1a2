/- The plain law of a life: who owes, and how much, in each state that events can bring about. Conditions: the credit may live. -/
import Derived.Test.YthimmaffoehfaaaAwake
set_option linter.unusedVariables false
set_option linter.unusedSimpArgs false
set_option linter.unusedSectionVars false
namespace Go.Proofs.Ythimmaffoehfaaa
open Go.RowKit Go.Proofs.YthimmaffoehfaaaW.PrintWords Go.Proofs.YthimmaffoehfaaaW.PrintLast Go.Proofs.YthimmaffoehfaaaW.PrintMore
open Q

/-- What is shown, or was paid last, is within the most. -/
def Sane (t : Tm) (s : LS) : Prop := (s.st = 2 ∨ s.st = 4 ∨ s.st = 5) → 1 ≤ s.da ∧ s.da ≤ mostI t

theorem sumD_append (l m : List S56) : sumD (l ++ m) = sumD l + sumD m := by
  induction l with
  | nil => simp [sumD]
  | cons x l ih => simp [sumD, ih, Int.add_assoc]
theorem mayE_ok {t : Tm} {l : List S56} {d : S56} (h : mayE t l d = 0) : boundsB t = true ∧ drawsB none (l ++ [d]) = true ∧ d.f0 ≤ t.exp ∧ (t.prt = false → l = []) ∧ sumD (l ++ [d]) ≤ mostI t ∧ (t.prt = false → leastI t ≤ d.f1) := by
  unfold mayE at h
  split at h
  · cases h
  · rename_i h1
    split at h
    · cases h
    · rename_i h2
      split at h
      · cases h
      · rename_i h3
        split at h
        · cases h
        · rename_i h4
          split at h
          · cases h
          · rename_i h5
            simp only [look1, look2, look3, look4, look5, Bool.or_eq_true, Bool.and_eq_true, Bool.not_eq_true', decide_eq_true_eq, not_or, not_and] at h1 h2 h3 h4 h5
            refine ⟨by simpa using h1.1, by simpa using h1.2, by omega, fun hp => ?_, by omega, fun hp => by have := h5 hp; omega⟩
            have := h3 hp
            exact List.eq_nil_of_length_eq_zero (by omega)
theorem mayE_sum {t : Tm} {l : List S56} {d : S56} (h : mayE t l d = 0) : 1 ≤ d.f1 ∧ d.f1 ≤ mostI t := by
  obtain ⟨_, h2, _, _, h5, _⟩ := mayE_ok h
  have hb := draws_bounded _ _ h2
  have h1 := hb d (by simp)
  have h3 := (sumD_bound l (fun x hx => hb x (by simp [hx]))).1
  rw [sumD_append] at h5
  simp [sumD] at h5
  omega

theorem has_iff (l : List Int) (n : Int) : hasI l n = true ↔ n ∈ l := by
  unfold hasI
  simp
theorem stands_in {t : Tm} {s : LS} {k : Int} (h : standsB t s k = true) : s.st ∈ inK k := by
  unfold standsB at h
  simp only [Bool.and_eq_true] at h
  exact (has_iff _ _).1 h.2
theorem doR_ok {t : Tm} {s : LS} {ev : S40} (h : doR t s ev = 0) : rightB ev = true ∧ lateB s ev = false ∧ standsB t s ev.f0 = true ∧ ev.f1 = byB t s ev.f0 ∧ thenR t s ev ev.f0 = 0 := by
  unfold doR at h
  split at h
  · cases h
  · rename_i h1
    split at h
    · cases h
    · rename_i h2
      split at h
      · cases h
      · rename_i h3
        split at h
        · rename_i h4
          exact ⟨by simpa using h1, by simpa using h2, by simpa using h3, h4, h⟩
        · cases h
theorem doS_cases (t : Tm) (s : LS) (ev : S40) : (doR t s ev ≠ 0 ∧ doS t s ev = s) ∨ (doR t s ev = 0 ∧ doS t s ev = { thenS t s ev ev.f0 with hist := s.hist ++ [ev] }) := by
  unfold doS
  by_cases h : doR t s ev = 0
  · exact .inr ⟨h, if_pos h⟩
  · exact .inl ⟨h, if_neg h⟩

theorem sane_step {t : Tm} {s : LS} (h : Sane t s) (ev : S40) : Sane t (doS t s ev) := by
  rcases doS_cases t s ev with ⟨_, he⟩ | ⟨h0, he⟩
  · rw [he]; exact h
  · rw [he]
    obtain ⟨hr, _, hst, _, hth⟩ := doR_ok h0
    obtain ⟨k0, k7⟩ := right_kind hr
    have hin := stands_in hst
    intro hs
    generalize ev.f0 = k at *
    rcases kind_cases k0 k7 with rfl | rfl | rfl | rfl | rfl | rfl | rfl | rfl
    · simp [thenS] at hs
    · simp [thenS, inK] at hs hin; omega
    · have hm : mayE t s.paid (evD ev) = 0 := by simpa [thenR] using hth
      have := mayE_sum hm
      simp only [thenS, hm]
      simpa [evD] using this
    · simp [thenS] at hs
    · have := h (by simp [inK] at hin; omega)
      simpa [thenS] using this
    · have := h (by simp [inK] at hin; omega)
      simpa [thenS] using this
    · have h5 : s.st = 5 := by simpa [inK] using hin
      have := h (by omega)
      by_cases hp : ev.f1 = t.app
      · simp [thenS, hp] at hs
      · simpa [thenS, hp] using this
    · simp only [inK] at hin
      by_cases hp : ev.f2 ≤ t.exp
      · simp [thenR, hp] at hth
      · simp [thenS, hp] at hs

def runS (t : Tm) (l : List S40) : LS := l.foldl (doS t) newS
theorem runS_snoc (t : Tm) (l : List S40) (ev : S40) : runS t (l ++ [ev]) = doS t (runS t l) ev := by simp [runS]
theorem run_sane (t : Tm) (l : List S40) : Sane t (runS t l) := by
  have key : ∀ (l : List S40) (s : LS), Sane t s → Sane t (l.foldl (doS t) s) := by
    intro l
    induction l with
    | nil => intro s h; exact h
    | cons x l ih => intro s h; exact ih _ (sane_step h x)
  exact key l newS (by intro h; simp [newS] at h)
theorem then_paid (t : Tm) (s : LS) (ev : S40) (k : Int) : (thenS t s ev k).paid.length ≤ s.paid.length + 1 := by
  unfold thenS
  repeat' split
  all_goals simp
theorem run_len (t : Tm) (l : List S40) : (runS t l).paid.length ≤ l.length ∧ (runS t l).hist.length ≤ l.length := by
  have key : ∀ (l : List S40) (s : LS) (n : Nat), s.paid.length ≤ n → s.hist.length ≤ n → (l.foldl (doS t) s).paid.length ≤ n + l.length ∧ (l.foldl (doS t) s).hist.length ≤ n + l.length := by
    intro l
    induction l with
    | nil => intro s n h1 h2; exact ⟨by simpa using h1, by simpa using h2⟩
    | cons x l ih =>
      intro s n h1 h2
      have h3 : (doS t s x).paid.length ≤ n + 1 ∧ (doS t s x).hist.length ≤ n + 1 := by
        rcases doS_cases t s x with ⟨_, he⟩ | ⟨_, he⟩
        · rw [he]; omega
        · rw [he]
          have := then_paid t s x x.f0
          constructor
          · show (thenS t s x x.f0).paid.length ≤ n + 1
            omega
          · simp; omega
      have := ih (doS t s x) (n + 1) h3.1 h3.2
      simp only [List.foldl_cons, List.length_cons]
      omega
  have := key l newS 0 (by simp [newS]) (by simp [newS])
  simpa [runS] using this

/-! ### just one owes -/
theorem may_apart {t : Tm} (h : mayB t = true) : t.iss ≠ t.app ∧ t.iss ≠ t.ben ∧ t.app ≠ t.ben ∧ t.cnf ≠ t.iss ∧ t.cnf ≠ t.app ∧ t.cnf ≠ t.ben ∧ boundsB t = true := by
  rw [rmay_eq] at h
  unfold rmayB at h
  simp only [dec_text, Bool.and_eq_true, Bool.or_eq_true, Bool.not_eq_true', decide_eq_false_iff_not, decide_eq_true_eq] at h
  obtain ⟨⟨⟨⟨⟨⟨n1, n2⟩, n3⟩, e1⟩, e2⟩, e3⟩, hc, hb⟩ := h
  have ne : ∀ s : ByteArray, nameB s = true → s.toList ≠ [] := by
    intro s hn he
    have hz : s.size = 0 := by
      have h1 : s.toList.length = 0 := by rw [he]; rfl
      rw [ByteArray.toList_eq, Array.length_toList] at h1
      exact h1
    simp [nameB, hz] at hn
  rcases hc with hc | ⟨⟨⟨_, c1⟩, c2⟩, c3⟩
  · refine ⟨e1, e2, e3, ?_, ?_, ?_, hb⟩
    · rintro h; exact ne _ n1 (h ▸ hc)
    · rintro h; exact ne _ n2 (h ▸ hc)
    · rintro h; exact ne _ n3 (h ▸ hc)
  · exact ⟨e1, e2, e3, c1, c2, c3, hb⟩
def cnt (t : Tm) (s : LS) (l : List ByteArray) : Int := ((l.filter fun p => owesB t s p).length : Int)
theorem owes_count {t : Tm} {s : LS} (h : mayB t = true) : cnt t s [t.iss, t.app, t.ben, t.cnf] = if s.st = 4 ∨ s.st = 5 then 1 else 0 := by
  obtain ⟨e1, e2, e3, c1, c2, c3, _⟩ := may_apart h
  unfold cnt owesB bankB repB
  by_cases h4 : s.st = 4
  · cases hcf : s.cf with
    | true => simp [h4, hcf, c1, c2, c3, Ne.symm c1, Ne.symm c2, Ne.symm c3]
    | false => simp [h4, hcf, e1, e2, c1, Ne.symm e1, Ne.symm e2]
  · by_cases h5 : s.st = 5
    · by_cases hq : (s.cf && !s.rp) = true
      · simp [h5, hq, e1, e2, c1, Ne.symm e1, Ne.symm e2]
      · have hq : (s.cf && !s.rp) = false := by simpa using hq
        simp [h5, hq, e1, e3, c2, Ne.symm e1, Ne.symm e3]
    · simp [h4, h5]
end Go.Proofs.Ythimmaffoehfaaa
