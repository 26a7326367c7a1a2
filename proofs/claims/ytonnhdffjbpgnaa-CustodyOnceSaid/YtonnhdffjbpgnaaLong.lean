/- The bound ahead of the laws of custody, in plain Lean; where it doesn't hold the rows are small. Conditions: texts as a machine can hold. -/
import Derived.Test.YtonnhdffjbpgnaaPure
import Derived.Test.YtonnhdffjbpgnaaOpen
set_option linter.unusedVariables false
set_option linter.unusedSimpArgs false
set_option linter.unusedSectionVars false
namespace Go.Proofs.Ytonnhdffjbpgnaa
open Go.RowKit Go.Proofs.YtonnhdffjbpgnaaW.PrintWords Go.Proofs.YtonnhdffjbpgnaaW.PrintLast Go.Proofs.YtonnhdffjbpgnaaW.PrintMore
open Q

def bigB (h : S41) : Bool := decide (200 < h.f0.size + h.f1.size + h.f2.size + h.f3.size)
def longB (l : List S41) : Bool := l.any bigB || decide (60 < l.length)

theorem wrap_small {i : Int} (h0 : 0 ≤ i) (h : i ≤ 9223372036854775807) : wrap64 i = i := by
  unfold wrap64
  omega
theorem long_at (l : List S41) (hs : Sized4 l) (hn : l.length ≤ 9223372036854775807) (d : Nat) : ∀ (k i : Nat), i ≤ l.length → l.length - i = d → d < k →
    supercargolaw17_long.l0 k l l (l.length : Int) (i : Int) = some ((l.drop i).any bigB || decide (60 < l.length)) := by
  induction d with
  | zero =>
    intro k i hi hd hk
    obtain ⟨k, rfl⟩ : ∃ m, k = m + 1 := ⟨k - 1, by omega⟩
    rw [supercargolaw17_long.l0, if_neg (by omega), show l.drop i = [] from List.drop_eq_nil_of_le (by omega)]
    simp only [List.any_nil, Bool.false_or]
    congr 1
    rw [decide_eq_decide]
    omega
  | succ d ih =>
    intro k i hi hd hk
    obtain ⟨k, rfl⟩ : ∃ m, k = m + 1 := ⟨k - 1, by omega⟩
    have hlt : i < l.length := by omega
    have hz := hs _ (rd_mem hlt)
    have z0 := hz _ (by simp : (rd_T41 l (i : Int)).f0 ∈ _)
    have z1 := hz _ (by simp : (rd_T41 l (i : Int)).f1 ∈ _)
    have z2 := hz _ (by simp : (rd_T41 l (i : Int)).f2 ∈ _)
    have z3 := hz _ (by simp : (rd_T41 l (i : Int)).f3 ∈ _)
    rw [supercargolaw17_long.l0, if_pos (by omega), if_pos (by omega), if_pos (by omega), wrap_one (by omega) (by omega), drop_rd hlt]
    generalize rd_T41 l (i : Int) = h at z0 z1 z2 z3
    have hw : wrap64 (wrap64 (wrap64 ((h.f0.size : Int) + (h.f1.size : Int)) + (h.f2.size : Int)) + (h.f3.size : Int)) = ((h.f0.size + h.f1.size + h.f2.size + h.f3.size : Nat) : Int) := by
      rw [wrap_small (i := (h.f0.size : Int) + (h.f1.size : Int)) (by omega) (by omega), wrap_small (i := (h.f0.size : Int) + (h.f1.size : Int) + (h.f2.size : Int)) (by omega) (by omega), wrap_small (by omega) (by omega)]
      omega
    rw [hw, show ((i : Int) + 1) = ((i + 1 : Nat) : Int) by omega, ih k (i + 1) (by omega) (by omega) (by omega)]
    by_cases hb : 200 < h.f0.size + h.f1.size + h.f2.size + h.f3.size
    · rw [if_pos (by omega)]
      simp [bigB, hb]
    · rw [if_neg (by omega)]
      simp [bigB, hb]
theorem long_f (l : List S41) (hs : Sized4 l) (hn : l.length ≤ 9223372036854775807) : supercargolaw17_long.f (l.length + 1) l = some (longB l) := by
  unfold supercargolaw17_long.f
  exact long_at l hs hn l.length (l.length + 1) 0 (by omega) (by omega) (by omega)
theorem long_any (A : Option Addr) (c : Nat) (l : List S41) (w : World) (hr : Kd.C k41 w A l.length l) (hc : l.length ≤ c) (hs : Sized4 l) :
    Calls Try.prog 9 #[.slice A l.length c] w fun e w' => e = .returned (.bool (longB l)) ∧ Below w.heap.size w w' := by
  refine (supercargolaw17_long.calls (l.length + 1) A c l _ w hr hc (long_f l hs (by have := hr.2.1; omega))).mono ?_
  rintro e w' ⟨rfl, hb⟩
  exact ⟨rfl, hb⟩
theorem short_len {l : List S41} (h : longB l = false) : l.length ≤ 60 := by
  unfold longB at h
  simp at h
  omega
theorem short_sized {l : List S41} (h : longB l = false) : ∀ x ∈ l, ∀ s ∈ [x.f0, x.f1, x.f2, x.f3], s.size ≤ 200 := by
  unfold longB at h
  simp only [Bool.or_eq_false_iff, List.any_eq_false] at h
  intro x hx s hs
  have := h.1 x hx
  simp [bigB] at this
  simp only [List.mem_cons, List.not_mem_nil, or_false] at hs
  rcases hs with rfl | rfl | rfl | rfl <;> omega
theorem short_sized2 {l : List S41} (h : longB l = false) : Sized l := fun x hx s hs => Nat.le_trans (short_sized h x hx s hs) (by unfold maxLen; omega)
end Go.Proofs.Ytonnhdffjbpgnaa
