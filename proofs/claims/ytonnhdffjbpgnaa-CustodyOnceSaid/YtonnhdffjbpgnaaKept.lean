/- What is done to other boxes changes nothing of a box, in plain Lean. Conditions: rows of at most a thousand. -/
import Derived.Test.YtonnhdffjbpgnaaPlay
set_option linter.unusedVariables false
set_option linter.unusedSimpArgs false
set_option linter.unusedSectionVars false
namespace Go.Proofs.Ytonnhdffjbpgnaa
open Go.RowKit Go.Proofs.YtonnhdffjbpgnaaW.PrintWords Go.Proofs.YtonnhdffjbpgnaaW.PrintLast Go.Proofs.YtonnhdffjbpgnaaW.PrintMore
open Q

theorem ownP_same (l : List S41) {a b : ByteArray} (h : a.toList = b.toList) : ownP l a = ownP l b := by unfold ownP; rw [h]
theorem refE_own {done done' : List S41} {h : S41} (ho : ownP done h.f0 = ownP done' h.f0) (hl : done.length ≤ 1000) (hl' : done'.length ≤ 1000) : refE done h = refE done' h := by
  have h1 := boxes_len done []
  have h2 := boxes_len done' []
  have h3 : (boxesP done).length ≤ done.length := by unfold boxesP; simpa using h1
  have h4 : (boxesP done').length ≤ done'.length := by unfold boxesP; simpa using h2
  unfold refE
  rw [ho]
  split
  · unfold beginR
    rw [ho, if_neg (show ¬ 4096 ≤ (boxesP done).length by omega), if_neg (show ¬ 4096 ≤ (boxesP done').length by omega)]
  · rfl
theorem kept_apart (box : ByteArray) (l : List S41) : ∀ done done' : List S41, ownP done box = ownP done' box → done.length + l.length ≤ 1000 → done'.length + l.length ≤ 1000 → ownP (kept done l) box = ownP (kept done' (ownP l box)) box := by
  induction l with
  | nil => intro done done' h _ _; exact h
  | cons x t ih =>
    intro done done' h hl hl'
    simp only [List.length_cons] at hl hl'
    by_cases e : x.f0.toList = box.toList
    · have e1 : ownP (x :: t) box = x :: ownP t box := by simp [ownP, e]
      have e2 : refE done x = refE done' x := refE_own (by rw [ownP_same done e, ownP_same done' e, h]) (by omega) (by omega)
      rw [e1, kept, kept, e2]
      split
      · refine ih _ _ ?_ (by simp; omega) (by simp; omega)
        rw [ownP_append, ownP_append, h]
      · exact ih _ _ h (by omega) (by omega)
    · have e1 : ownP (x :: t) box = ownP t box := by simp [ownP, e]
      rw [e1, kept]
      split
      · refine ih _ _ ?_ (by simp; omega) (by omega)
        rw [ownP_append, if_neg e, List.append_nil, h]
      · exact ih _ _ h (by omega) (by omega)
theorem ownP_len (l : List S41) (box : ByteArray) : (ownP l box).length ≤ l.length := List.length_filter_le _ _
theorem ownP_sized {l : List S41} (h : Sized l) (box : ByteArray) : Sized (ownP l box) := fun x hx => h x ((List.mem_filter.1 hx).1)

end Go.Proofs.Ytonnhdffjbpgnaa
