/- What the document tells of who has a box, and of who has what, is what the chain tells. In plain Lean. Conditions: rows of at most a thousand. -/
import Derived.Test.YtonnhdffjbpgnaaHeld
import Derived.Test.YtonnhdffjbpgnaaQx8
set_option linter.unusedVariables false
set_option linter.unusedSimpArgs false
set_option linter.unusedSectionVars false
namespace Go.Proofs.Ytonnhdffjbpgnaa
open Go.RowKit Go.Proofs.YtonnhdffjbpgnaaW.PrintWords Go.Proofs.YtonnhdffjbpgnaaW.PrintLast Go.Proofs.YtonnhdffjbpgnaaW.PrintMore
open Q

/-! ### who has a box, as of a day -/
def asFrom (l : List S41) (day : Int) (z : ByteArray × ByteArray × Bool) : ByteArray × ByteArray × Bool :=
  match l.reverse.find? fun h => decide (h.f4 ≤ day) with
  | some h => (h.f2, h.f3, true)
  | none => z
theorem asFrom_cons (h : S41) (t : List S41) (day : Int) (z : ByteArray × ByteArray × Bool) : asFrom (h :: t) day z = asFrom t day (if h.f4 ≤ day then (h.f2, h.f3, true) else z) := by
  unfold asFrom
  rw [List.reverse_cons, List.find?_append]
  cases hq : t.reverse.find? fun h => decide (h.f4 ≤ day) with
  | some x => simp
  | none =>
    by_cases e : h.f4 ≤ day
    · simp [e]
    · simp [e]
theorem asP_from (l : List S41) (day : Int) : asP l day = asFrom l day (⟨#[]⟩, ⟨#[]⟩, false) := rfl

theorem ras_loop (l : List S41) (day : Int) (hl : l.length ≤ 1000000) (d : Nat) : ∀ (k i : Nat) (a b : ByteArray) (ok : Bool), i ≤ l.length → l.length - i = d → d < k → supercargoref17_As.l0 k day a b ok l (i : Int) = some (asFrom (l.drop i) day (a, b, ok)) := by
  induction d with
  | zero =>
    intro k i a b ok hi hd hk
    obtain ⟨k, rfl⟩ : ∃ m, k = m + 1 := ⟨k - 1, by omega⟩
    rw [supercargoref17_As.l0, if_neg (by omega), show l.drop i = [] from List.drop_eq_nil_of_le (by omega)]
    rfl
  | succ d ih =>
    intro k i a b ok hi hd hk
    obtain ⟨k, rfl⟩ : ∃ m, k = m + 1 := ⟨k - 1, by omega⟩
    have hlt : i < l.length := by omega
    have e : ((i : Int) + 1) = ((i + 1 : Nat) : Int) := by omega
    rw [supercargoref17_As.l0, if_pos (by omega), if_pos (by omega), wrap_one (by omega) (by omega), drop_rd hlt, asFrom_cons, e]
    by_cases hb : (rd_T41 l (i : Int)).f4 ≤ day
    · rw [if_pos hb, if_pos hb]
      exact ih k (i + 1) _ _ _ (by omega) (by omega) (by omega)
    · rw [if_neg hb, if_neg hb]
      exact ih k (i + 1) _ _ _ (by omega) (by omega) (by omega)
theorem ras_ev (l : List S41) (box : ByteArray) (day : Int) (hl : l.length ≤ 1000) : Ev (fun k => supercargoref17_As.f k l box day) (asP (ownP l box) day) := by
  unfold supercargoref17_As.f
  have hol := ownP_len l box
  refine Ev.bind (own_ev l box (by omega)) ?_
  refine Ev.of (fun k => (supercargoref17_As.mono_l k) _ _ _ _ _ _) (k := (ownP l box).length + 1) ?_
  rw [asP_from]
  exact ras_loop (ownP l box) day (by omega) (ownP l box).length ((ownP l box).length + 1) 0 _ _ _ (by omega) (by omega) (by omega)
theorem ras_any (A : Option Addr) (c : Nat) (l : List S41) (box : ByteArray) (day : Int) (w : World) (hr : Kd.C k41 w A l.length l) (hc : l.length ≤ c) (hl : l.length ≤ 1000) :
    Calls Try.prog 25 #[.slice A l.length c, .string box, .int .i64 day] w fun e w' => e = .returned (.tuple #[.string (asP (ownP l box) day).1, .string (asP (ownP l box) day).2.1, .bool (asP (ownP l box) day).2.2]) ∧ Below w.heap.size w w' := by
  obtain ⟨k, hk⟩ := ras_ev l box day hl
  exact supercargoref17_As.calls k A c l box day _ _ _ w hr hc (hk k (Nat.le_refl _))

/-! ### the boxes, rising -/
abbrev bl (s : ByteArray) : List UInt8 := s.data.toList
theorem bl_eq (s : ByteArray) : s.toList = bl s := ByteArray.toList_eq s
theorem bl_inj {a b : ByteArray} (h : bl a = bl b) : a = b := bytes_toList_inj (by rw [bl_eq, bl_eq, h])
theorem leB_iff (s x : ByteArray) : leB s x = true ↔ bl s ≤ bl x := by
  unfold leB
  rw [bl_eq, bl_eq, Go.Proofs.bytesLess_eq]
  simp only [Bool.or_eq_true, decide_eq_true_eq, beq_iff_eq]
  constructor
  · rintro (h | h)
    · exact List.le_of_lt h
    · rw [h]; exact List.le_refl _
  · intro h
    by_cases e : bl s = bl x
    · exact Or.inr e
    · exact Or.inl (Decidable.byContradiction fun hn => e (List.le_antisymm h (List.not_lt.1 hn)))
def Rising (l : List ByteArray) : Prop := l.Pairwise fun x y => bl x < bl y

theorem putP_true (s : ByteArray) (l : List ByteArray) (h : ∀ x ∈ l, bl s < bl x) : putP s l true = l := by
  induction l with
  | nil => rfl
  | cons x t ih =>
    have hx := h x (by simp)
    have hne : ¬ x.toList = s.toList := by
      rw [bl_eq, bl_eq]
      intro e
      rw [e] at hx
      exact List.lt_irrefl _ hx
    unfold putP
    simp [hne, ih fun y hy => h y (by simp [hy])]
theorem putP_false (s : ByteArray) (l : List ByteArray) (hl : Rising l) : Rising (putP s l false) ∧ ∀ x, x ∈ putP s l false ↔ x = s ∨ x ∈ l := by
  induction l with
  | nil => exact ⟨by simp [putP, Rising], fun x => by simp [putP]⟩
  | cons x t ih =>
    obtain ⟨h1, h2⟩ := List.pairwise_cons.1 hl
    by_cases hle : bl s ≤ bl x
    · have hb : leB s x = true := (leB_iff s x).2 hle
      have hgt : ∀ y ∈ t, bl s < bl y := fun y hy => List.lt_of_le_of_lt hle (h1 y hy)
      by_cases e : bl x = bl s
      · have e2 : x = s := bl_inj e
        have : putP s (x :: t) false = x :: t := by
          rw [e2] at hb ⊢
          unfold putP
          simp [hb, putP_true s t hgt]
        rw [this]
        exact ⟨hl, fun y => by rw [← e2]; simp⟩
      · have hne : ¬ x.toList = s.toList := by rw [bl_eq, bl_eq]; exact e
        have : putP s (x :: t) false = s :: x :: t := by
          unfold putP
          simp [hb, hne, putP_true s t hgt]
        rw [this]
        refine ⟨List.pairwise_cons.2 ⟨fun y hy => ?_, hl⟩, fun y => by simp⟩
        rcases List.mem_cons.1 hy with rfl | hy
        · exact Decidable.byContradiction fun hn => e (List.le_antisymm (List.not_lt.1 hn) hle)
        · exact hgt y hy
    · have hb : leB s x = false := by
        cases h : leB s x with
        | false => rfl
        | true => exact absurd ((leB_iff s x).1 h) hle
      have hlt : bl x < bl s := List.not_le.1 hle
      have hne : ¬ x.toList = s.toList := by
        rw [bl_eq, bl_eq]
        intro e
        rw [e] at hlt
        exact List.lt_irrefl _ hlt
      obtain ⟨i1, i2⟩ := ih h2
      have : putP s (x :: t) false = x :: putP s t false := by
        rw [putP]
        simp [hb, hne]
      rw [this]
      refine ⟨List.pairwise_cons.2 ⟨fun y hy => ?_, i1⟩, fun y => ?_⟩
      · rcases (i2 y).1 hy with rfl | hy
        · exact hlt
        · exact h1 y hy
      · simp only [List.mem_cons, i2]
        constructor
        · rintro (h | h | h) <;> simp [h]
        · rintro (h | h | h) <;> simp [h]
theorem boxesP_all (l : List S41) : ∀ acc : List ByteArray, Rising acc → Rising (l.foldl (fun acc h => putP h.f0 acc false) acc) ∧ ∀ x, x ∈ l.foldl (fun acc h => putP h.f0 acc false) acc ↔ x ∈ acc ∨ ∃ h ∈ l, x = h.f0 := by
  induction l with
  | nil => intro acc h; exact ⟨h, fun x => by simp⟩
  | cons y t ih =>
    intro acc h
    obtain ⟨h1, h2⟩ := putP_false y.f0 acc h
    obtain ⟨i1, i2⟩ := ih _ h1
    refine ⟨i1, fun x => ?_⟩
    rw [List.foldl_cons, i2, h2]
    constructor
    · rintro ((h | h) | ⟨z, hz, h⟩)
      · exact Or.inr ⟨y, by simp, h⟩
      · exact Or.inl h
      · exact Or.inr ⟨z, by simp [hz], h⟩
    · rintro (h | ⟨z, hz, h⟩)
      · exact Or.inl (Or.inr h)
      · rcases List.mem_cons.1 hz with rfl | hz
        · exact Or.inl (Or.inl h)
        · exact Or.inr ⟨z, hz, h⟩
theorem boxesP_rising (l : List S41) : Rising (boxesP l) := (boxesP_all l [] List.Pairwise.nil).1
theorem boxesP_mem (l : List S41) (x : ByteArray) : x ∈ boxesP l ↔ ∃ h ∈ l, x = h.f0 := by
  have := (boxesP_all l [] List.Pairwise.nil).2 x
  simpa [boxesP] using this
theorem rising_nodup {l : List ByteArray} (h : Rising l) : l.Nodup := h.imp fun hxy e => by
  rw [e] at hxy
  exact List.lt_irrefl _ hxy
theorem sortedT_rising {l : List ByteArray} (h : Rising l) : sortedT l = l := by
  have hs : (l.map bl).Pairwise fun a b => decide (a ≤ b) = true := by
    rw [List.pairwise_map]
    exact h.imp fun hxy => decide_eq_true (List.le_of_lt hxy)
  have : (l.map bl).mergeSort (fun x y => decide (x ≤ y)) = l.map bl := List.mergeSort_of_pairwise hs
  unfold sortedT
  rw [this, List.map_map]
  have : ((fun x => (⟨x.toArray⟩ : ByteArray)) ∘ bl) = id := by
    funext s
    simp [bl]
  rw [this]
  simp
theorem tells_mem {M : List (ByteArray × List S41)} {done : List S41} (h : Tells M done) (x : ByteArray) : x ∈ M.map (·.1) ↔ x ∈ boxesP done := by
  rw [boxesP_mem]
  constructor
  · intro hx
    obtain ⟨y, hy, rfl⟩ := List.mem_map.1 hx
    have hne : hget M y.1 ≠ [] := by
      unfold hget
      cases hq : M.find? fun z => decide (z.1 = y.1) with
      | none => exact absurd (List.find?_eq_none.1 hq y hy) (by simp)
      | some z => simpa using h.full z (List.mem_of_find?_eq_some hq)
    rw [h.get] at hne
    obtain ⟨z, hz⟩ := List.exists_mem_of_ne_nil _ hne
    obtain ⟨h1, h2⟩ := List.mem_filter.1 hz
    exact ⟨z, h1, (bytes_toList_inj (by simpa using h2)).symm⟩
  · rintro ⟨z, hz, rfl⟩
    have hne : hget M z.f0 ≠ [] := by
      rw [h.get]
      exact List.ne_nil_of_mem (List.mem_filter.2 ⟨hz, by simp⟩)
    unfold hget at hne
    cases hq : M.find? fun y => decide (y.1 = z.f0) with
    | none => rw [hq] at hne; simp at hne
    | some y =>
      have h1 := List.find?_some hq
      exact List.mem_map.2 ⟨y, List.mem_of_find?_eq_some hq, by simpa using h1⟩
theorem tells_boxes {M : List (ByteArray × List S41)} {done : List S41} (h : Tells M done) (hn : (M.map (·.1)).Nodup) : sortedT (M.map (·.1)) = boxesP done := by
  rw [sortedT_perm ((List.perm_ext_iff_of_nodup hn (rising_nodup (boxesP_rising done))).2 fun x => tells_mem h x)]
  exact sortedT_rising (boxesP_rising done)

/-! ### who has what -/
def hasB (l : List S41) (who b : ByteArray) : Bool := decide ((rd_T41 (ownP l b) (((ownP l b).length : Int) - 1)).f2.toList = who.toList)

theorem rheld_loop (l : List S41) (who : ByteArray) (bs : List ByteArray) (hl : l.length ≤ 1000) (hbs : bs.length ≤ 1000) (hne : ∀ b ∈ bs, ownP l b ≠ []) (d : Nat) : ∀ (i : Nat) (acc : List ByteArray), i ≤ bs.length → bs.length - i = d → acc.length ≤ i →
    Ev (fun k => supercargoref17_Held.l0 k l who acc bs (bs.length : Int) (i : Int)) (acc ++ (bs.drop i).filter (hasB l who)) := by
  induction d with
  | zero =>
    intro i acc hi hd ha
    refine Ev.step (f := fun _ => some acc) (fun k => ?_) ?_
    · rw [supercargoref17_Held.l0, if_neg (by omega)]
    · rw [show bs.drop i = [] from List.drop_eq_nil_of_le (by omega)]
      simpa using Ev.now acc
  | succ d ih =>
    intro i acc hi hd ha
    have hlt : i < bs.length := by omega
    have e : ((i : Int) + 1) = ((i + 1 : Nat) : Int) := by omega
    have hb := hne _ (List.mem_of_mem_drop (by rw [rd_bytes hlt]; simp) : rdOf ByteArray.empty bs (i : Int) ∈ bs)
    rw [rd_bytes hlt]
    generalize hbx : rdOf ByteArray.empty bs (i : Int) = b at hb
    have hpos := List.length_pos_iff.2 hb
    have hol := ownP_len l b
    have hw : wrap64 (((ownP l b).length : Int) - 1) = ((ownP l b).length : Int) - 1 := by
      have h1 : 0 ≤ ((ownP l b).length : Int) - 1 := by omega
      have h2 : ((ownP l b).length : Int) - 1 ≤ 9223372036854775807 := by omega
      generalize ((ownP l b).length : Int) - 1 = z at h1 h2
      unfold wrap64
      omega
    refine Ev.step (f := fun k => (supercargoref17_Own.f k l b).bind fun t315 => (if 0 ≤ (wrap64 ((t315.length : Int) - 1)) then (if (wrap64 ((t315.length : Int) - 1)) < (t315.length : Int) then (if ((rd_T41 t315 (wrap64 ((t315.length : Int) - 1))).f2).toList = who.toList then (if acc.length < 8796093022208 then (supercargoref17_Held.l0 k l who (acc ++ [b]) bs (bs.length : Int) ((i + 1 : Nat) : Int)) else (none)) else (supercargoref17_Held.l0 k l who acc bs (bs.length : Int) ((i + 1 : Nat) : Int))) else (none)) else (none))) (fun k => ?_) ?_
    · rw [supercargoref17_Held.l0, if_pos (by omega), if_pos (by omega), if_pos (by omega), wrap_one (by omega) (by omega), e, hbx]
    · refine Ev.bind (own_ev l b (by omega)) ?_
      by_cases hh : (rd_T41 (ownP l b) (((ownP l b).length : Int) - 1)).f2.toList = who.toList
      · have hB : hasB l who b = true := decide_eq_true hh
        refine Ev.congr (f := fun k => supercargoref17_Held.l0 k l who (acc ++ [b]) bs (bs.length : Int) ((i + 1 : Nat) : Int)) (fun k => by rw [hw, if_pos (by omega), if_pos (by omega), if_pos hh, if_pos (by omega)]) ?_
        have := ih (i + 1) (acc ++ [b]) (by omega) (by omega) (by simp; omega)
        rw [List.filter_cons_of_pos hB]
        simpa using this
      · have hB : ¬ hasB l who b = true := by simpa [hasB] using hh
        refine Ev.congr (f := fun k => supercargoref17_Held.l0 k l who acc bs (bs.length : Int) ((i + 1 : Nat) : Int)) (fun k => by rw [hw, if_pos (by omega), if_pos (by omega), if_neg hh]) ?_
        rw [List.filter_cons_of_neg hB]
        exact ih (i + 1) acc (by omega) (by omega) (by omega)
theorem rheld_ev (l : List S41) (who : ByteArray) (hl : l.length ≤ 1000) : Ev (fun k => supercargoref17_Held.f k l who) ((boxesP l).filter (hasB l who)) := by
  have hb := boxes_len l []
  have hb2 : (boxesP l).length ≤ 1000 := by unfold boxesP; simp at hb; omega
  unfold supercargoref17_Held.f
  refine Ev.bind (boxes_ev l hl) ?_
  have := rheld_loop l who (boxesP l) hl hb2 (fun b h => by
    obtain ⟨z, hz, rfl⟩ := (boxesP_mem l b).1 h
    exact List.ne_nil_of_mem (List.mem_filter.2 ⟨hz, by simp⟩)) (boxesP l).length 0 [] (by omega) (by omega) (by simp)
  simpa using this
theorem rheld_any (A : Option Addr) (c : Nat) (l : List S41) (who : ByteArray) (w : World) (hr : Kd.C k41 w A l.length l) (hc : l.length ≤ c) (hl : l.length ≤ 1000) :
    Calls Try.prog 26 #[.slice A l.length c, .string who] w fun e w' => ∃ v, e = .returned v ∧ Kd.R Kd.string 9 w' w.heap.size (fun _ => True) v ((boxesP l).filter (hasB l who)) ∧ Below w.heap.size w w' := by
  obtain ⟨k, hk⟩ := rheld_ev l who hl
  exact supercargoref17_Held.calls k A c l who _ w hr hc (hk k (Nat.le_refl _))
theorem rboxes_any (A : Option Addr) (c : Nat) (l : List S41) (w : World) (hr : Kd.C k41 w A l.length l) (hc : l.length ≤ c) (hl : l.length ≤ 1000) :
    Calls Try.prog 27 #[.slice A l.length c] w fun e w' => ∃ v, e = .returned v ∧ Kd.R Kd.string 9 w' w.heap.size (fun _ => True) v (boxesP l) ∧ Below w.heap.size w w' := by
  obtain ⟨k, hk⟩ := boxes_ev l hl
  exact supercargoref17_Boxes.calls k A c l _ w hr hc (hk k (Nat.le_refl _))

/-- Of what was done without a fault, the last hand-over tells who has the box now. -/
theorem held_same {M : List (ByteArray × List S41)} {done : List S41} (h : Tells M done) (ha : Acc [] done) (hl : done.length ≤ 500) (who b : ByteArray) (hb : b ∈ boxesP done) : (!delB M who b) = hasB done who b := by
  obtain ⟨z, hz, rfl⟩ := (boxesP_mem done b).1 hb
  have hne : ownP done z.f0 ≠ [] := List.ne_nil_of_mem (List.mem_filter.2 ⟨hz, by simp⟩)
  have hacc : Acc [] (ownP done z.f0) := acc_own z.f0 done [] [] rfl ha (by simp; omega) (by simp; omega)
  rcases List.eq_nil_or_concat (ownP done z.f0) with e | ⟨init, last, e⟩
  · exact absurd e hne
  · rw [List.concat_eq_append] at e
    unfold delB hasB
    rw [h.get]
    rw [e] at hacc ⊢
    rw [acc_now hacc]
    have : rd_T41 (init ++ [last]) (((init ++ [last]).length : Int) - 1) = last := by
      unfold rd_T41
      have : (((init ++ [last]).length : Int) - 1).toNat = init.length := by simp
      rw [this]
      simp
    rw [this]
    rw [Bool.not_not, Bool.eq_iff_iff]
    simp
theorem helds_same {M : List (ByteArray × List S41)} {done : List S41} (h : Tells M done) (hn : (M.map (·.1)).Nodup) (ha : Acc [] done) (hl : done.length ≤ 500) (who : ByteArray) :
    (sortedT (M.map (·.1))).filter (fun x => !delB M who x) = (boxesP done).filter (hasB done who) := by
  rw [tells_boxes h hn]
  exact List.filter_congr fun b hb => held_same h ha hl who b hb
end Go.Proofs.Ytonnhdffjbpgnaa
