/- What lots weigh joined: the plain law. Conditions: few lots. -/
import Derived.Test.YtnhbbfbllkefcaaDoorPureW
set_option linter.unusedVariables false
set_option linter.unusedSimpArgs false
set_option linter.unusedSectionVars false
namespace Go.Proofs.YtnhbbfbllkefcaaDoor
open Go.RowKit Go.Proofs.YtnhbbfbllkefcaaDoorW.PrintWords Go.Proofs.YtnhbbfbllkefcaaDoorW.PrintLast Go.Proofs.YtnhbbfbllkefcaaDoorW.PrintMore
open Q

def sumT (M : List S36) : List (ByteArray × Int) → Int
  | [] => 0
  | p :: C => p.2 * wK M p.1 + sumT M C
theorem cget_bound {C : List (ByteArray × Int)} {B : Int} (hB : 0 ≤ B) (h : ∀ p ∈ C, 1 ≤ p.2 ∧ p.2 ≤ B) (k : ByteArray) : 0 ≤ cget C k ∧ cget C k ≤ B := by
  induction C with
  | nil => exact ⟨Int.le_refl _, hB⟩
  | cons p C ih =>
    have e : cget (p :: C) k = if k = p.1 then p.2 else cget C k := rfl
    rw [e]
    by_cases hk : k = p.1
    · rw [if_pos hk]; have := h p (by simp); omega
    · rw [if_neg hk]; exact ih fun q hq => h q (by simp [hq])
theorem sumT_cput (M : List S36) (k : ByteArray) (n : Int) : ∀ C : List (ByteArray × Int), sumT M (cput C k (cget C k + n)) = sumT M C + n * wK M k
  | [] => by simp [cput, cget, sumT]
  | p :: C => by
    have e1 : cget (p :: C) k = if k = p.1 then p.2 else cget C k := rfl
    have e2 : ∀ m, cput (p :: C) k m = if k = p.1 then (p.1, m) :: C else p :: cput C k m := fun _ => rfl
    rw [e1, e2]
    by_cases h : k = p.1
    · rw [if_pos h, if_pos h, sumT, sumT]
      dsimp only
      rw [h, Int.add_mul]
      omega
    · rw [if_neg h, if_neg h, sumT, sumT, sumT_cput M k n C]
      omega
theorem cput_bound {C : List (ByteArray × Int)} {B : Int} (h : ∀ p ∈ C, 1 ≤ p.2 ∧ p.2 ≤ B) {k : ByteArray} {n : Int} (hn : 1 ≤ n ∧ n ≤ B) : ∀ p ∈ cput C k n, 1 ≤ p.2 ∧ p.2 ≤ B := by
  induction C with
  | nil => intro p hp; simp [cput] at hp; rw [hp]; exact hn
  | cons q C ih =>
    have e : cput (q :: C) k n = if k = q.1 then (q.1, n) :: C else q :: cput C k n := rfl
    intro p hp
    rw [e] at hp
    by_cases hk : k = q.1
    · rw [if_pos hk] at hp
      rcases List.mem_cons.1 hp with rfl | hp
      · exact hn
      · exact h p (by simp [hp])
    · rw [if_neg hk] at hp
      rcases List.mem_cons.1 hp with rfl | hp
      · exact h p (by simp)
      · exact ih (fun z hz => h z (by simp [hz])) p hp
theorem cput_mem (k : ByteArray) (n : Int) : ∀ C : List (ByteArray × Int), (k ∈ C.map (·.1) → (cput C k n).map (·.1) = C.map (·.1)) ∧ (k ∉ C.map (·.1) → (cput C k n).map (·.1) = C.map (·.1) ++ [k])
  | [] => ⟨fun h => by simp at h, fun _ => rfl⟩
  | p :: C => by
    obtain ⟨h1, h2⟩ := cput_mem k n C
    have e : cput (p :: C) k n = if k = p.1 then (p.1, n) :: C else p :: cput C k n := rfl
    rw [e]
    by_cases hk : k = p.1
    · rw [if_pos hk]
      exact ⟨fun _ => rfl, fun h => absurd (by simp [hk]) h⟩
    · rw [if_neg hk]
      refine ⟨fun h => ?_, fun h => ?_⟩
      · rw [List.map_cons, List.mem_cons] at h
        rw [List.map_cons, List.map_cons, h1 (h.resolve_left hk)]
      · rw [List.map_cons, List.mem_cons] at h
        rw [List.map_cons, List.map_cons, h2 (fun e => h (.inr e))]
        rfl
theorem cput_nodup {C : List (ByteArray × Int)} (h : (C.map (·.1)).Nodup) (k : ByteArray) (n : Int) : ((cput C k n).map (·.1)).Nodup := by
  obtain ⟨h1, h2⟩ := cput_mem k n C
  by_cases hk : k ∈ C.map (·.1)
  · rw [h1 hk]; exact h
  · rw [h2 hk]
    refine List.nodup_append.2 ⟨h, by simp, ?_⟩
    intro a ha b hb e
    simp only [List.mem_singleton] at hb
    subst hb; subst e
    exact hk ha
theorem cnt_all (M : List S36) (l : List S38) (hl : ∀ x ∈ l, 1 ≤ x.f1 ∧ x.f1 ≤ 1048576) : ∀ (C : List (ByteArray × Int)) (B : Int), 0 ≤ B → B + l.length * 1048576 ≤ 1000000000000 → (∀ p ∈ C, 1 ≤ p.2 ∧ p.2 ≤ B) → (C.map (·.1)).Nodup →
    sumT M (cntF C l) = sumT M C + sumW M l ∧ (∀ p ∈ cntF C l, 1 ≤ p.2) ∧ ((cntF C l).map (·.1)).Nodup := by
  induction l with
  | nil =>
    intro C B _ _ hC hn
    exact ⟨by simp [cntF, sumW], fun p hp => (hC p hp).1, hn⟩
  | cons x l ih =>
    intro C B hB0 hB hC hn
    obtain ⟨x1, x2⟩ := hl x (by simp)
    have e : cntF C (x :: l) = if 0 < x.f1 then cntF (cput C x.f0 (wrap64 (cget C x.f0 + x.f1))) l else cntF C l := rfl
    obtain ⟨g0, g1⟩ := cget_bound hB0 hC x.f0
    rw [List.length_cons] at hB
    have hw : wrap64 (cget C x.f0 + x.f1) = cget C x.f0 + x.f1 := by unfold wrap64; omega
    rw [e, if_pos (by omega), hw]
    obtain ⟨i1, i2, i3⟩ := ih (fun y hy => hl y (by simp [hy])) (cput C x.f0 (cget C x.f0 + x.f1)) (B + 1048576) (by omega) (by omega)
      (cput_bound (fun p hp => ⟨(hC p hp).1, by have := (hC p hp).2; omega⟩) ⟨by omega, by omega⟩) (cput_nodup hn _ _)
    refine ⟨?_, i2, i3⟩
    rw [i1, sumT_cput, sumW]
    omega
def sumU (M : List S36) (C : List (ByteArray × Int)) (ks : List ByteArray) : Int := (ks.map fun k => cget C k * wK M k).sum
theorem sumW_map (M : List S36) (C : List (ByteArray × Int)) (ks : List ByteArray) : sumW M (ks.map (lotOf C)) = sumU M C ks := by
  induction ks with
  | nil => rfl
  | cons k ks ih =>
    rw [List.map_cons, sumW, ih]
    unfold sumU
    rw [List.map_cons, List.sum_cons]
    rfl
theorem sorted_self (ks : List ByteArray) : (sortedT ks).Perm ks := by
  unfold sortedT
  have h := (List.mergeSort_perm (ks.map fun s => s.data.toList) fun x y => decide (x ≤ y)).map fun x => (⟨x.toArray⟩ : ByteArray)
  refine h.trans ?_
  rw [List.map_map]
  have : ((fun x : List UInt8 => (⟨x.toArray⟩ : ByteArray)) ∘ fun s : ByteArray => s.data.toList) = id := by
    funext s
    obtain ⟨⟨l⟩⟩ := s
    rfl
  rw [this, List.map_id]
theorem sumI_perm {a b : List Int} (h : a.Perm b) : a.sum = b.sum := by
  induction h with
  | nil => rfl
  | cons x _ ih => rw [List.sum_cons, List.sum_cons, ih]
  | swap x y l => rw [List.sum_cons, List.sum_cons, List.sum_cons, List.sum_cons]; omega
  | trans _ _ h1 h2 => exact h1.trans h2
theorem sumU_perm (M : List S36) (C : List (ByteArray × Int)) {a b : List ByteArray} (h : a.Perm b) : sumU M C a = sumU M C b := by
  unfold sumU
  exact sumI_perm (h.map _)
theorem cget_mem {C : List (ByteArray × Int)} (hn : (C.map (·.1)).Nodup) : ∀ p ∈ C, cget C p.1 = p.2 := by
  induction C with
  | nil => intro p hp; simp at hp
  | cons q C ih =>
    rw [List.map_cons, List.nodup_cons] at hn
    intro p hp
    have e : cget (q :: C) p.1 = if p.1 = q.1 then q.2 else cget C p.1 := rfl
    rw [e]
    rcases List.mem_cons.1 hp with rfl | hp
    · rw [if_pos rfl]
    · have hne : p.1 ≠ q.1 := fun e => hn.1 (List.mem_map.2 ⟨p, hp, e⟩)
      rw [if_neg hne]
      exact ih hn.2 p hp
theorem sumU_self (M : List S36) {C : List (ByteArray × Int)} (hn : (C.map (·.1)).Nodup) : sumU M C (C.map (·.1)) = sumT M C := by
  have key : ∀ D : List (ByteArray × Int), (∀ p ∈ D, cget C p.1 = p.2) → sumU M C (D.map (·.1)) = sumT M D := by
    intro D
    induction D with
    | nil => intro _; rfl
    | cons p D ih =>
      intro h
      have h1 := ih fun q hq => h q (by simp [hq])
      unfold sumU at h1 ⊢
      rw [List.map_cons, List.map_cons, List.sum_cons, h1, sumT, h p (by simp)]
  exact key C (cget_mem hn)
theorem weight_join {M : List S36} (h : AllMay M) {l : List S38} (he : (weightR M l).2 = 0) (hlen : l.length ≤ 41) :
    (weightR M (joinL l)).2 = 1 ∨ ((weightR M (joinL l)).2 = 0 ∧ (weightR M (joinL l)).1 = (weightR M l).1) := by
  obtain ⟨hg, hs, hw⟩ := weight_ok h he
  obtain ⟨c1, c2, c3⟩ := cnt_all M l (fun x hx => lot_le (hg x hx).1) [] 0 (by omega) (by omega) (by simp) (by simp)
  have hsum : sumW M (joinL l) = sumW M l := by
    unfold joinL keysC
    rw [sumW_map, sumU_perm M _ (sorted_self _), sumU_self M c3, c1]
    simp [sumT]
  have hmem : ∀ x ∈ joinL l, nameB x.f0 = true ∧ missB M x = false := by
    intro x hx
    unfold joinL at hx
    obtain ⟨k, hk, rfl⟩ := List.mem_map.1 hx
    have hk2 := (sorted_self _).mem_iff.1 hk
    obtain ⟨p, hp, rfl⟩ := List.mem_map.1 hk2
    rcases (cnt_keys l []).1 p hp with ⟨y, hy, e⟩ | ⟨q, hq, _⟩
    · obtain ⟨g1, g2⟩ := hg y hy
      refine ⟨?_, ?_⟩
      · show nameB p.1 = true
        rw [← e]
        unfold lotB at g1
        simp only [Bool.and_eq_true] at g1
        exact g1.1
      · have : missB M (lotOf (cntF [] l) p.1) = missB M y := by
          unfold missB
          show (match findG M p.1 with | some y => y.f0.toList.isEmpty | none => true) = _
          rw [← e]
          rfl
        rw [this]
        exact g2
    · simp at hq
  by_cases hall : ∀ x ∈ joinL l, lotB x = true
  · right
    have hg2 : GoodL M (joinL l) := fun x hx => ⟨hall x hx, (hmem x hx).2⟩
    rw [weight_good h hg2, hsum, if_pos hs, hw]
    exact ⟨rfl, rfl⟩
  · left
    have hany : (joinL l).any (fun x => !lotB x) = true := by
      rw [List.any_eq_true]
      apply Classical.byContradiction
      intro hc
      apply hall
      intro x hx
      cases hb : lotB x with
      | true => rfl
      | false => exact absurd ⟨x, hx, by simp [hb]⟩ hc
    have hk : knownE M (joinL l) = 1 := by unfold knownE; rw [if_pos hany]
    unfold weightR
    rw [if_neg (by rw [hk]; decide), hk]
end Go.Proofs.YtnhbbfbllkefcaaDoor
