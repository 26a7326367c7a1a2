/- The keys of a map, sorted. Conditions: at most a million, names as a machine can hold. -/
import Derived.Test.YtnhbbfbllkefcaaDoorCounts
import Derived.Test.YtnhbbfbllkefcaaDoorIter
set_option linter.unusedVariables false
set_option linter.unusedSimpArgs false
set_option linter.unusedSectionVars false
namespace Go.Proofs.YtnhbbfbllkefcaaDoor
open Go.RowKit Go.Proofs.YtnhbbfbllkefcaaDoorW.PrintWords Go.Proofs.YtnhbbfbllkefcaaDoorW.PrintLast Go.Proofs.YtnhbbfbllkefcaaDoorW.PrintMore
open Q

/-- Texts, sorted. -/
def sortedT (ks : List ByteArray) : List ByteArray := ((ks.map fun s => s.data.toList).mergeSort fun x y => decide (x ≤ y)).map fun x => (⟨x.toArray⟩ : ByteArray)

theorem sortedT_perm {a b : List ByteArray} (h : a.Perm b) : sortedT a = sortedT b := by
  unfold sortedT
  exact congrArg _ (Go.mergeSort_of_perm (h.map _))
theorem sortedT_len (a : List ByteArray) : (sortedT a).length = a.length := by
  unfold sortedT
  simp

def anyR : Value → Option (DataW Unit × List MemPlace) := fun _ => some (.nil, [])

theorem owns_at {w : World} {r : Nat} {l : List (ByteArray × Value)} (h : MapAt Value.string w r l) (hsz : ∀ x ∈ l, x.1.size ≤ maxLen) (hlen : l.length ≤ 1000000) :
    ∃ D0 : DataW Unit, w.ownsMap Tryd.prog 9 anyR r l.length D0 ∧ Go.Maps.size D0 = l.length ∧ (Go.strKeys D0).Perm (l.map fun x => x.1.data.toList) := by
  obtain ⟨es, clock, hb, hborn, hl, hn⟩ := h
  have hes : es.size = l.length := by
    have := congrArg List.length hl
    simpa using this
  have hkeys : es.toList.map (·.key) = l.map fun p => Value.string p.1 := by
    have := congrArg (List.map Prod.fst) hl
    simpa [List.map_map, Function.comp_def] using this
  have hst : Go.MapKept.Stamped es clock := by
    refine ⟨hborn.1, hborn.2, ?_⟩
    rw [hkeys]
    rw [List.nodup_iff_pairwise_ne] at hn ⊢
    rw [List.pairwise_map] at hn ⊢
    exact hn.imp fun h e => h (by injection e)
  have hat : ∀ x ∈ es.toList, ∃ p ∈ l, x.key = .string p.1 := by
    intro x hx
    have : x.key ∈ es.toList.map (·.key) := List.mem_map.2 ⟨x, hx, rfl⟩
    rw [hkeys] at this
    obtain ⟨p, hp, e⟩ := List.mem_map.1 this
    exact ⟨p, hp, e.symm⟩
  have hrd : ∀ x ∈ es.toList, ∀ p ∈ l, x.key = .string p.1 → Go.WideElems.rd Tryd.prog 9 anyR x = some (.string p.1.data.toList, .nil) := by
    intro x hx p hp e
    have := hsz p hp
    simp [Go.WideElems.rd, anyR, e, keyOf, mapKey, Tryd.underlying9, this]
  refine ⟨_, ⟨es, clock, hb, ⟨by rw [hes]; unfold maxLen; omega, hst, fun x hx => ?_⟩, by omega, rfl⟩, ?_, ?_⟩
  · obtain ⟨p, hp, e⟩ := hat x hx
    exact ⟨_, hrd x hx p hp e⟩
  · simp only [Go.Maps.size]
    rw [(Go.WideShapes.sorted_perm _).length_eq]
    simpa using hes
  · simp only [Go.strKeys]
    refine ((Go.WideShapes.sorted_perm _).map _).trans ?_
    rw [List.map_map]
    have : es.toList.map ((fun p => Go.strOf p.1) ∘ Go.WideElems.rg Tryd.prog 9 anyR) = es.toList.map fun x => match x.key with | .string s => s.data.toList | _ => [] := by
      refine List.map_congr_left fun x hx => ?_
      obtain ⟨p, hp, e⟩ := hat x hx
      simp only [Function.comp, Go.WideElems.rg, hrd x hx p hp e, Option.getD_some, Go.strOf, e]
    rw [this]
    have h2 := congrArg (List.map fun v => match v with | Value.string s => s.data.toList | _ => ([] : List UInt8)) hkeys
    simp only [List.map_map, Function.comp_def] at h2
    rw [h2]

theorem keysC_any (r : Nat) (w : World) : Calls Tryd.prog 29 #[.map (some r)] w fun e w' => e = .returned (.func (.func 42) #[] #[.pointer (some ⟨w.heap.size, 0, none⟩)]) ∧ w' = w.alloc (.cells #[.map (some r)] 60) :=
  callsIn_wide.1 (Tryd.maps_Keys_29 (some r) w)
set_option maxHeartbeats 2000000 in
theorem sortedC_any (r : Nat) (M : List (ByteArray × Int)) (w : World) (h : MapAt Value.string w r (M.map cE)) (hsm : M.length ≤ 1000000) (hsz : ∀ x ∈ M, x.1.size ≤ maxLen) :
    Calls Tryd.prog 28 #[.func (.func 42) #[] #[.pointer (some ⟨w.heap.size, 0, none⟩)]] (w.alloc (.cells #[.map (some r)] 60)) fun e w' => ∃ v, e = .returned v ∧ Kd.R Kd.string 9 w' w.heap.size (fun _ => True) v (sortedT (M.map (·.1))) ∧ Below w.heap.size w w' := by
  obtain ⟨D0, hown, hD, hperm⟩ := owns_at h (by
    intro x hx
    obtain ⟨y, hy, rfl⟩ := List.mem_map.1 hx
    exact hsz y hy) (by simpa using hsm)
  have hD' : Go.Maps.size D0 = M.length := by simpa using hD
  have hmax : Go.Maps.size D0 ≤ maxLen := by rw [hD']; unfold maxLen; omega
  have hbytes : Go.Maps.size D0 * 16 ≤ 140737488355328 := by rw [hD']; omega
  refine (callsIn_wide.1 (Tryd.slices_Sorted_keys_28_29 r _ D0 _ w hown hmax hbytes)).mono ?_
  rintro e w' ⟨v, ss, rfl, hS, hrow, hnil, hb⟩
  refine ⟨v, rfl, ?_, ((Below.refl _ w).alloc (Nat.le_refl _) _).trans (hb.mono (by simp))⟩
  have hs : (ss.mergeSort fun x y => decide (x ≤ y)) = (((M.map (·.1)).map fun s => s.data.toList).mergeSort fun x y => decide (x ≤ y)) := by
    refine Go.mergeSort_of_perm (hS.trans (hperm.trans ?_))
    simp [List.map_map, Function.comp_def, cE]
  have hl : (sortedT (M.map (·.1))).length = ss.length := by
    have := (hS.trans hperm).length_eq
    rw [sortedT_len, this]
    simp
  have hrow2 := ownsRow_base_a hrow (base' := w.heap.size) (by simp)
  refine Kd.R_of_own ?_ (fun _ _ => trivial)
  rw [hl]
  have : encs Value.string (sortedT (M.map (·.1))) = (ss.mergeSort fun x y => decide (x ≤ y)).map Go.Proofs.encStr := by
    rw [hs]
    unfold sortedT
    simp [encs, List.map_map, Function.comp_def]
  rw [this]
  exact hrow2
end Go.Proofs.YtnhbbfbllkefcaaDoor
