/- What the program's chain tells is what the document tells, in plain Lean. Conditions: rows of at most a thousand. -/
import Derived.Test.YtonnhdffjbpgnaaRCheck
set_option linter.unusedVariables false
set_option linter.unusedSimpArgs false
set_option linter.unusedSectionVars false
namespace Go.Proofs.Ytonnhdffjbpgnaa
open Go.RowKit Go.Proofs.YtonnhdffjbpgnaaW.PrintWords Go.Proofs.YtonnhdffjbpgnaaW.PrintLast Go.Proofs.YtonnhdffjbpgnaaW.PrintMore
open Q

/-- The chain's boxes tell what was done. -/
structure Tells (M : List (ByteArray × List S41)) (done : List S41) : Prop where
  get : ∀ box, hget M box = ownP done box
  full : ∀ x ∈ M, x.2 ≠ []
  len : M.length ≤ done.length

theorem Tells.nil : Tells [] [] := ⟨fun _ => rfl, by simp, by simp⟩

theorem ownP_append (l : List S41) (h : S41) (box : ByteArray) : ownP (l ++ [h]) box = ownP l box ++ (if h.f0.toList = box.toList then [h] else []) := by
  unfold ownP
  rw [List.filter_append]
  congr 1
  by_cases e : h.f0.toList = box.toList <;> simp [e]

theorem hget_append (M : List (ByteArray × List S41)) (b : ByteArray) (l : List S41) (box : ByteArray) (hf : ∀ x ∈ M, x.2 ≠ []) (hb : hget M b = []) : hget (M ++ [(b, l)]) box = if box = b then l else hget M box := by
  unfold hget at hb ⊢
  rw [List.find?_append]
  cases hq : M.find? fun x => decide (x.1 = box) with
  | some x =>
    have hx := List.find?_some hq
    have hxm := List.mem_of_find?_eq_some hq
    have hx1 : x.1 = box := by simpa using hx
    by_cases e : box = b
    · exfalso
      rw [← e, hq] at hb
      exact hf x hxm (by simpa using hb)
    · simp [e]
  | none =>
    by_cases e : box = b
    · simp [e]
    · have : ¬ b = box := fun h => e h.symm
      simp [e, this]

theorem hget_map (M : List (ByteArray × List S41)) (b : ByteArray) (h : S41) (box : ByteArray) (hb : hget M b ≠ []) : hget (M.map fun x => if x.1 = b then (x.1, x.2 ++ [h]) else x) box = hget M box ++ (if box = b then [h] else []) := by
  unfold hget at hb ⊢
  rw [List.find?_map]
  have : ((fun x : ByteArray × List S41 => decide (x.1 = box)) ∘ fun x => if x.1 = b then (x.1, x.2 ++ [h]) else x) = fun x => decide (x.1 = box) := by
    funext x
    simp only [Function.comp]
    split <;> rfl
  rw [this]
  cases hq : M.find? fun x => decide (x.1 = box) with
  | some x =>
    have hx := List.find?_some hq
    have hx1 : x.1 = box := by simpa using hx
    by_cases e : box = b
    · simp [e, hx1]
    · simp [e, hx1]
  | none =>
    by_cases e : box = b
    · rw [← e, hq] at hb
      simp at hb
    · simp [e]

theorem beginR_eq {M : List (ByteArray × List S41)} {done : List S41} (h : Tells M done) (hl : done.length ≤ 1000) (box who place : ByteArray) (day : Int) : beginE M box who place day = beginR done box who place day := by
  unfold beginE beginR
  have h1 := boxes_len done []
  have h2 := h.len
  have h3 : (boxesP done).length ≤ done.length := by unfold boxesP; simpa using h1
  rw [h.get, if_neg (show ¬ 4096 ≤ M.length by omega), if_neg (show ¬ 4096 ≤ (boxesP done).length by omega)]
theorem refE_eq {M : List (ByteArray × List S41)} {done : List S41} (h : Tells M done) (hl : done.length ≤ 1000) (x : S41) : doE M x = refE done x := by
  unfold doE refE
  split
  · exact beginR_eq h hl _ _ _ _
  · rw [handE_eq, h.get]

theorem Tells.step {M : List (ByteArray × List S41)} {done : List S41} (h : Tells M done) (x : S41) (h0 : doE M x = 0) : Tells (doM M x) (done ++ [x]) := by
  unfold doE at h0
  unfold doM
  by_cases hf : x.f1.toList = []
  · rw [if_pos hf] at h0 ⊢
    rw [beginM, if_pos h0]
    have hg : hget M x.f0 = [] := by
      unfold beginE at h0
      by_cases e : hget M x.f0 = []
      · exact e
      · exfalso
        rw [if_pos e] at h0
        split at h0
        · omega
        · split at h0 <;> omega
    have hx1 : x.f1 = ⟨#[]⟩ := bytes_toList_inj (by rw [hf, ByteArray.toList_eq])
    have hxe : (⟨x.f0, ⟨#[]⟩, x.f2, x.f3, x.f4⟩ : S41) = x := by rw [← hx1]
    rw [hxe]
    refine ⟨fun box => ?_, fun y hy => ?_, by have := h.len; simp; omega⟩
    · rw [hget_append M x.f0 [x] box h.full hg, ownP_append, ← h.get]
      by_cases e : box = x.f0
      · rw [if_pos e, e, hg]; simp
      · rw [if_neg e, if_neg (fun e2 => e (bytes_toList_inj e2).symm)]; simp
    · rcases List.mem_append.1 hy with hy | hy
      · exact h.full y hy
      · rw [List.mem_singleton.1 hy]; simp
  · rw [if_neg hf] at h0 ⊢
    rw [handM, if_pos h0]
    have hg : hget M x.f0 ≠ [] := by
      intro e
      unfold handE at h0
      rw [e] at h0
      simp only [List.getLast?_nil] at h0
      split at h0
      · omega
      · split at h0 <;> omega
    refine ⟨fun box => ?_, fun y hy => ?_, by have := h.len; simp; omega⟩
    · rw [hget_map M x.f0 x box hg, ownP_append, ← h.get]
      by_cases e : box = x.f0
      · rw [if_pos e, e, if_pos rfl]
      · rw [if_neg e, if_neg (fun e2 => e (bytes_toList_inj e2).symm)]
    · obtain ⟨z, hz, rfl⟩ := List.mem_map.1 hy
      have := h.full z hz
      split
      · simp
      · exact this

theorem check_ref (l : List S41) : ∀ (M : List (ByteArray × List S41)) (done : List S41) (i : Nat), Tells M done → done.length + l.length ≤ 1000 → checkP M i l = refP done i l := by
  induction l with
  | nil => intro M done i _ _; rfl
  | cons x t ih =>
    intro M done i h hl
    simp only [List.length_cons] at hl
    rw [checkP, refP, refE_eq h (by omega)]
    by_cases h0 : refE done x = 0
    · rw [if_neg (by simpa using h0), if_neg (by simpa using h0)]
      exact ih _ _ _ (h.step x (by rw [refE_eq h (by omega)]; exact h0)) (by simp; omega)
    · rw [if_pos h0, if_pos h0]
end Go.Proofs.Ytonnhdffjbpgnaa
