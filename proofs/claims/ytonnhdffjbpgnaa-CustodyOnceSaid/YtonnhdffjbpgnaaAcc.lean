/- A row in which nothing is refused; a box's row cut off anywhere is one. In plain Lean. Conditions: rows of at most a thousand. -/
import Derived.Test.YtonnhdffjbpgnaaKept
import Derived.Test.YtonnhdffjbpgnaaBack
set_option linter.unusedVariables false
set_option linter.unusedSimpArgs false
set_option linter.unusedSectionVars false
namespace Go.Proofs.Ytonnhdffjbpgnaa
open Go.RowKit Go.Proofs.YtonnhdffjbpgnaaW.PrintWords Go.Proofs.YtonnhdffjbpgnaaW.PrintLast Go.Proofs.YtonnhdffjbpgnaaW.PrintMore
open Q

def Acc : List S41 → List S41 → Prop
  | _, [] => True
  | done, h :: t => refE done h = 0 ∧ Acc (done ++ [h]) t

theorem acc_append (a : List S41) : ∀ d b : List S41, Acc d (a ++ b) ↔ Acc d a ∧ Acc (d ++ a) b := by
  induction a with
  | nil => intro d b; simp [Acc]
  | cons h t ih =>
    intro d b
    rw [List.cons_append, Acc, Acc, ih, and_assoc]
    simp
theorem acc_kept_row (l : List S41) : ∀ done : List S41, Acc [] done → Acc [] (kept done l) := by
  induction l with
  | nil => intro done h; exact h
  | cons x t ih =>
    intro done h
    rw [kept]
    split
    · rename_i h0
      refine ih _ ((acc_append done [] [x]).2 ⟨h, ?_⟩)
      simpa [Acc] using h0
    · exact ih _ h
theorem acc_own (box : ByteArray) (t : List S41) : ∀ done done' : List S41, ownP done box = ownP done' box → Acc done t → done.length + t.length ≤ 1000 → done'.length + t.length ≤ 1000 → Acc done' (ownP t box) := by
  induction t with
  | nil => intro done done' _ _ _ _; exact trivial
  | cons x t ih =>
    intro done done' h ha hl hl'
    simp only [List.length_cons] at hl hl'
    by_cases e : x.f0.toList = box.toList
    · have e1 : ownP (x :: t) box = x :: ownP t box := by simp [ownP, e]
      have e2 : refE done x = refE done' x := refE_own (by rw [ownP_same done e, ownP_same done' e, h]) (by omega) (by omega)
      rw [e1]
      refine ⟨by rw [← e2]; exact ha.1, ih _ _ ?_ ha.2 (by simp; omega) (by simp; omega)⟩
      rw [ownP_append, ownP_append, h]
    · have e1 : ownP (x :: t) box = ownP t box := by simp [ownP, e]
      rw [e1]
      refine ih _ _ ?_ ha.2 (by simp; omega) (by omega)
      rw [ownP_append, if_neg e, List.append_nil, h]
theorem acc_take {d t : List S41} (n : Nat) (h : Acc d t) : Acc d (t.take n) := by
  rw [← List.take_append_drop n t] at h
  exact ((acc_append _ _ _).1 h).1
theorem acc_ref (t : List S41) : ∀ (done : List S41) (i : Nat), Acc done t → refP done i t = (((i + t.length : Nat) : Int), 0) := by
  induction t with
  | nil => intro done i _; rfl
  | cons x t ih =>
    intro done i h
    rw [refP, if_neg (by simpa using h.1), ih _ _ h.2]
    simp only [List.length_cons]
    congr 2
    omega
theorem acc_same (t : List S41) : ∀ done : List S41, Acc done t → kept done t = done ++ t := by
  induction t with
  | nil => intro done _; simp [kept]
  | cons x t ih =>
    intro done h
    rw [kept, if_pos h.1, ih _ h.2]
    simp
theorem kept_len (l : List S41) : ∀ done : List S41, (kept done l).length ≤ done.length + l.length := by
  induction l with
  | nil => intro done; simp [kept]
  | cons x t ih =>
    intro done
    rw [kept]
    split
    · have := ih (done ++ [x]); simp at this ⊢; omega
    · have := ih done; simp; omega
theorem kept_mem (l : List S41) : ∀ (done : List S41) (x : S41), x ∈ kept done l → x ∈ done ∨ x ∈ l := by
  induction l with
  | nil => intro done x h; exact Or.inl h
  | cons y t ih =>
    intro done x h
    rw [kept] at h
    split at h
    · rcases ih _ _ h with h | h
      · rcases List.mem_append.1 h with h | h
        · exact Or.inl h
        · right; rw [List.mem_singleton.1 h]; simp
      · right; simp [h]
    · rcases ih _ _ h with h | h
      · exact Or.inl h
      · right; simp [h]
theorem refE_day {done : List S41} {h : S41} (h0 : refE done h = 0) : dayB h.f4 = true := by
  unfold refE at h0
  split at h0
  · unfold beginR at h0
    split at h0
    · omega
    · split at h0
      · omega
      · rename_i e; simpa using e
  · unfold handR at h0
    split at h0
    · omega
    · split at h0
      · omega
      · rename_i e; simpa using e
theorem ownP_all {l : List S41} {box : ByteArray} (h : ∀ x ∈ l, x.f0.toList = box.toList) : ownP l box = l := by
  unfold ownP
  exact List.filter_eq_self.2 fun x hx => by simpa using h x hx
theorem acc_now {init : List S41} {last : S41} (h : Acc [] (init ++ [last])) : asP (init ++ [last]) 1048576 = (last.f2, last.f3, true) := by
  have h1 := ((acc_append init [] [last]).1 h).2.1
  have hd := refE_day h1
  unfold dayB at hd
  simp only [Bool.and_eq_true, decide_eq_true_eq] at hd
  unfold asP
  simp [hd.2]
theorem acc_box {l : List S41} {box : ByteArray} (hl : l.length ≤ 500) : Acc [] (ownP (kept [] l) box) := by
  have := kept_len l []
  simp at this
  exact acc_own box _ [] [] rfl (acc_kept_row l [] trivial) (by simp; omega) (by simp; omega)
theorem box_all {l : List S41} {box : ByteArray} (n : Nat) : ownP ((ownP l box).take n) box = (ownP l box).take n :=
  ownP_all fun x hx => by
    have h1 := List.mem_of_mem_take hx
    have h2 := (List.mem_filter.1 h1).2
    simpa using h2
theorem hand_take {w : World} {A : Option Addr} {l : List S41} (h : Kd.C k41 w A l.length l) (n : Nat) (hn : n ≤ l.length) : Kd.C k41 w A n (l.take n) := by
  refine ⟨by simp; omega, by have := h.2.1; omega, fun h0 => ?_⟩
  obtain ⟨ad, e, hc⟩ := h.2.2 (by omega)
  refine ⟨ad, e, fun j p hj => hc j p ?_⟩
  rw [List.getElem?_take] at hj
  split at hj
  · exact hj
  · cases hj
end Go.Proofs.Ytonnhdffjbpgnaa
