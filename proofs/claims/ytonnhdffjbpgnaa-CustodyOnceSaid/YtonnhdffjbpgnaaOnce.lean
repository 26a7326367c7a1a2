/- Maps as lists: what stands at a key; who has a box. In plain Lean. Conditions: rows of at most a thousand. -/
import Derived.Test.YtonnhdffjbpgnaaRefs
set_option linter.unusedVariables false
set_option linter.unusedSimpArgs false
set_option linter.unusedSectionVars false
namespace Go.Proofs.Ytonnhdffjbpgnaa
open Go.RowKit Go.Proofs.YtonnhdffjbpgnaaW.PrintWords Go.Proofs.YtonnhdffjbpgnaaW.PrintLast Go.Proofs.YtonnhdffjbpgnaaW.PrintMore
open Q

section
variable {K : Type} [DecidableEq K]
theorem mget_cons (p : K × Value) (l : List (K × Value)) (x : K) : mget (p :: l) x = if x = p.1 then some p.2 else mget l x := by
  unfold mget
  rw [seek]
  split
  · rfl
  · have := seek_shift x l 0 1
    rw [show 0 + 1 = 1 from rfl] at this
    rw [this]
    cases seek x l 0 <;> rfl
theorem mput_cons (p : K × Value) (l : List (K × Value)) (x : K) (v : Value) : mput (p :: l) x v = if x = p.1 then (p.1, v) :: l else p :: mput l x v := by
  by_cases h : x = p.1
  · have hs : seek x (p :: l) 0 = some (0, p.2) := by rw [seek, if_pos h]
    unfold mput
    rw [hs, if_pos h]
    rfl
  · have hs : seek x (p :: l) 0 = (seek x l 0).map fun q => (q.1 + 1, q.2) := by
      rw [seek, if_neg h]
      exact seek_shift x l 0 1
    unfold mput
    rw [hs, if_neg h]
    cases seek x l 0 with
    | none => rfl
    | some q => rfl
theorem mget_mput (l : List (K × Value)) (x : K) (v : Value) (y : K) : mget (mput l x v) y = if y = x then some v else mget l y := by
  induction l with
  | nil =>
    show mget [(x, v)] y = _
    rw [mget_cons]
  | cons p l ih =>
    rw [mput_cons]
    by_cases h : x = p.1
    · rw [if_pos h, mget_cons, mget_cons]
      by_cases e : y = x
      · rw [if_pos e, if_pos (by rw [e]; exact h)]
      · rw [if_neg e, if_neg (fun e2 => e (e2.trans h.symm)), if_neg (fun e2 => e (e2.trans h.symm))]
    · rw [if_neg h, mget_cons, mget_cons, ih]
      by_cases e : y = p.1
      · rw [if_pos e, if_pos e, if_neg (fun e2 => h (e2.symm.trans e))]
      · rw [if_neg e, if_neg e]
theorem mget_mem (l : List (K × Value)) (x : K) : (mget l x).isSome = true ↔ x ∈ l.map (·.1) := by
  induction l with
  | nil => simp [mget, seek]
  | cons p l ih =>
    rw [mget_cons, List.map_cons, List.mem_cons]
    by_cases e : x = p.1
    · simp [e]
    · rw [if_neg e, ih]
      simp [e]
end

/-- Who has a box now. -/
def owner (M : List (ByteArray × List S41)) (b : ByteArray) : ByteArray := (asP (hget M b) 1048576).1
theorem keeps_owner (M : List (ByteArray × List S41)) (who b : ByteArray) : (!delB M who b) = true ↔ owner M b = who := by
  unfold delB owner
  rw [Bool.not_not, beq_iff_eq]
  exact ⟨bytes_toList_inj, fun h => by rw [h]⟩
theorem owner_at {M : List (ByteArray × List S41)} {done : List S41} (h : Tells M done) (ha : Acc [] done) (hl : done.length ≤ 500) {b : ByteArray} (hb : b ∈ M.map (·.1)) :
    ∃ last ∈ done, asP (hget M b) 1048576 = (last.f2, last.f3, true) ∧ owner M b = last.f2 := by
  rw [tells_mem h] at hb
  obtain ⟨z, hz, rfl⟩ := (boxesP_mem done b).1 hb
  have hne : ownP done z.f0 ≠ [] := List.ne_nil_of_mem (List.mem_filter.2 ⟨hz, by simp⟩)
  have hacc : Acc [] (ownP done z.f0) := acc_own z.f0 done [] [] rfl ha (by simp; omega) (by simp; omega)
  rcases List.eq_nil_or_concat (ownP done z.f0) with e | ⟨init, last, e⟩
  · exact absurd e hne
  · rw [List.concat_eq_append] at e
    have hm : last ∈ ownP done z.f0 := by rw [e]; simp
    have h1 : asP (hget M z.f0) 1048576 = (last.f2, last.f3, true) := by
      rw [h.get, e]
      rw [e] at hacc
      exact acc_now hacc
    exact ⟨last, (List.mem_filter.1 hm).1, h1, by unfold owner; rw [h1]⟩

/-- Who was spoken of, in the map's keys. -/
def Spoken (PL : List (ByteArray × Value)) (l : List S41) : Prop := ∀ x, x ∈ PL.map (·.1) ↔ ∃ h ∈ l, x = h.f2 ∨ x = h.f1
theorem mput_mem {K : Type} [DecidableEq K] (l : List (K × Value)) (x : K) (v : Value) (y : K) : y ∈ (mput l x v).map (·.1) ↔ y = x ∨ y ∈ l.map (·.1) := by
  rw [← mget_mem, mget_mput, ← mget_mem]
  by_cases e : y = x
  · simp [e]
  · simp [e]
theorem Spoken.step {PL PL' : List (ByteArray × Value)} {l : List S41} {h : S41} (hs : Spoken PL l) (hp : ∀ y, y ∈ PL'.map (·.1) ↔ y = h.f2 ∨ y = h.f1 ∨ y ∈ PL.map (·.1)) : Spoken PL' (l ++ [h]) := by
  intro x
  rw [hp, hs]
  constructor
  · rintro (e | e | ⟨z, hz, e⟩)
    · exact ⟨h, by simp, Or.inl e⟩
    · exact ⟨h, by simp, Or.inr e⟩
    · exact ⟨z, by simp [hz], e⟩
  · rintro ⟨z, hz, e⟩
    rcases List.mem_append.1 hz with hz | hz
    · exact Or.inr (Or.inr ⟨z, hz, e⟩)
    · rw [List.mem_singleton.1 hz] at e
      rcases e with e | e
      · exact Or.inl e
      · exact Or.inr (Or.inl e)

/-- What is found: just these boxes, each with its owner. -/
def Found2 (M : List (ByteArray × List S41)) (FL : List (ByteArray × Value)) (P : ByteArray → Prop) : Prop :=
  ∀ b, (P b → mget FL b = some (.string (owner M b))) ∧ (¬ P b → mget FL b = none)
theorem Found2.congr {M : List (ByteArray × List S41)} {FL : List (ByteArray × Value)} {P P' : ByteArray → Prop} (h : Found2 M FL P) (he : ∀ b, P' b ↔ P b) : Found2 M FL P' := fun b => ⟨fun hb => (h b).1 ((he b).1 hb), fun hb => (h b).2 fun hc => hb ((he b).2 hc)⟩
theorem Found2.put {M : List (ByteArray × List S41)} {FL : List (ByteArray × Value)} {P : ByteArray → Prop} (h : Found2 M FL P) {x who : ByteArray} (hw : owner M x = who) : Found2 M (mput FL x (.string who)) (fun b => P b ∨ b = x) := by
  intro b
  rw [mget_mput]
  by_cases e : b = x
  · rw [if_pos e]
    exact ⟨fun _ => by rw [e, hw], fun hn => absurd (Or.inr e) hn⟩
  · rw [if_neg e]
    exact ⟨fun hb => (h b).1 (hb.resolve_right e), fun hb => (h b).2 fun hc => hb (Or.inl hc)⟩
theorem Found2.len {M : List (ByteArray × List S41)} {FL : List (ByteArray × Value)} (h : Found2 M FL (fun b => b ∈ M.map (·.1))) (hn : (M.map (·.1)).Nodup) (hf : (FL.map (·.1)).Nodup) : FL.length = M.length := by
  have : (FL.map (·.1)).Perm (M.map (·.1)) := (List.perm_ext_iff_of_nodup hf hn).2 fun b => by
    rw [← mget_mem]
    by_cases hb : b ∈ M.map (·.1)
    · rw [(h b).1 hb]
      exact ⟨fun _ => hb, fun _ => rfl⟩
    · rw [(h b).2 hb]
      exact ⟨fun h => by simp at h, fun h => absurd h hb⟩
  simpa using this.length_eq
theorem mem_sortedT (ks : List ByteArray) (b : ByteArray) : b ∈ sortedT ks ↔ b ∈ ks := by
  unfold sortedT
  rw [List.mem_map]
  constructor
  · rintro ⟨x, hx, rfl⟩
    rw [(List.mergeSort_perm _ _).mem_iff] at hx
    obtain ⟨s, hs, rfl⟩ := List.mem_map.1 hx
    simpa using hs
  · intro h
    exact ⟨b.data.toList, (List.mergeSort_perm _ _).mem_iff.2 (List.mem_map.2 ⟨b, h, rfl⟩), by simp⟩
theorem nodup_sortedT {ks : List ByteArray} (h : ks.Nodup) : (sortedT ks).Nodup := by
  have h1 : (ks.map fun s => s.data.toList).Nodup := by
    rw [List.nodup_iff_pairwise_ne, List.pairwise_map]
    rw [List.nodup_iff_pairwise_ne] at h
    exact h.imp fun hne e => hne (bl_inj e)
  have h2 := ((List.mergeSort_perm (ks.map fun s => s.data.toList) fun x y => decide (x ≤ y)).nodup_iff).2 h1
  unfold sortedT
  rw [List.nodup_iff_pairwise_ne, List.pairwise_map]
  rw [List.nodup_iff_pairwise_ne] at h2
  exact h2.imp fun hne e => hne (by simpa using congrArg (fun s : ByteArray => s.data.toList) e)
theorem text_past {w w' : World} {r : Nat} {l : List (ByteArray × Value)} (hM : MapAt Value.string w r l) (hb : ∀ k, k ≠ r → w'.heap[k]? = w.heap[k]?) {A : Option Addr} {n : Nat} {xs : List ByteArray} (h : Kd.C Kd.string w A n xs) : Kd.C Kd.string w' A n xs := by
  refine ⟨h.1, h.2.1, fun h0 => ?_⟩
  obtain ⟨ad, e, hc⟩ := h.2.2 h0
  refine ⟨ad, e, fun j p hj => ?_⟩
  obtain ⟨c, hs, hk, hcell⟩ := hc j p hj
  refine ⟨c, hs, hk, fun i u hu => ?_⟩
  have h1 := hcell i u hu
  rw [World.cell?_of_block (w := w) (hb _ fun e2 => ?_)]
  · exact h1
  · obtain ⟨es, clock, hm, _⟩ := hM
    rw [← e2] at hm
    simp [World.cell?, hm] at h1
end Go.Proofs.Ytonnhdffjbpgnaa
