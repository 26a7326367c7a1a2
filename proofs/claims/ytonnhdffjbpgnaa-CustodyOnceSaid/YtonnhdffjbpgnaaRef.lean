/- What the document's functions compute, in plain Lean: names, a box's hand-overs, the boxes, a beginning. Conditions: rows of at most a million. -/
import Derived.Test.YtonnhdffjbpgnaaCheck
import Derived.Test.YtonnhdffjbpgnaaQx3
set_option linter.unusedVariables false
set_option linter.unusedSimpArgs false
set_option linter.unusedSectionVars false
namespace Go.Proofs.Ytonnhdffjbpgnaa
open Go.RowKit Go.Proofs.YtonnhdffjbpgnaaW.PrintWords Go.Proofs.YtonnhdffjbpgnaaW.PrintLast Go.Proofs.YtonnhdffjbpgnaaW.PrintMore
open Q

theorem wrap_one {i : Int} (h0 : 0 ≤ i) (h : i ≤ 9223372036854775806) : wrap64 (i + 1) = i + 1 := by
  unfold wrap64
  omega

/-! ### names -/
theorem name_step (k : Nat) (s : ByteArray) (i : Int) (h0 : 0 ≤ i) (hs : (s.size : Int) ≤ 9223372036854775807) : supercargoref05_Name.l0 (k + 1) s i =
    if i < (s.size : Int) then (if oddB (bt s i) = true then some false else supercargoref05_Name.l0 k s (i + 1)) else (if (s.size : Int) ≥ 1 then (some (decide ((s.size : Int) ≤ 16))) else (some false)) := by
  rw [supercargoref05_Name.l0]
  by_cases hi : i < (s.size : Int)
  · rw [if_pos hi, if_pos hi, if_pos h0, wrap_one h0 (by omega)]
    generalize bt s i = c
    unfold oddB
    by_cases h1 : c < 97 <;> by_cases h2 : 122 < c <;> by_cases h3 : c < 48 <;> by_cases h4 : 57 < c <;> by_cases h5 : c = 45 <;> first | (exfalso; omega) | simp [h1, h2, h3, h4, h5]
  · rw [if_neg hi, if_neg hi]

theorem bt_ok (s : ByteArray) (i : Nat) (hi : i < s.size) : oddB (bt s (i : Int)) = !okB (s[i]'hi) := by
  have : bt s (i : Int) = ((s[i]'hi).toNat : Int) := by
    unfold bt
    simp [hi]
  rw [this]
  unfold okB
  simp

theorem name_loop (s : ByteArray) (hs : (s.size : Int) ≤ 9223372036854775807) (d : Nat) : ∀ (k i : Nat), i ≤ s.size → s.size - i = d → d < k → (∀ j, ∀ hj : j < s.size, j < i → okB (s[j]'hj) = true) →
    supercargoref05_Name.l0 k s (i : Int) = some (nameB s) := by
  induction d with
  | zero =>
    intro k i hi hd hk hall
    obtain ⟨k, rfl⟩ : ∃ m, k = m + 1 := ⟨k - 1, by omega⟩
    rw [name_step k s i (by omega) hs, if_neg (by omega)]
    have ha : allOk s = true := allOk_at fun j hj => hall j hj (by omega)
    have he : s.toList.isEmpty = decide (s.size = 0) := by
      rw [ByteArray.toList_eq]
      obtain ⟨⟨l⟩⟩ := s
      cases l <;> simp [ByteArray.size]
    unfold nameB
    rw [ha, he]
    by_cases h0 : s.size = 0
    · rw [if_neg (by omega)]
      simp [h0]
    · rw [if_pos (by omega)]
      simp [h0]
  | succ d ih =>
    intro k i hi hd hk hall
    obtain ⟨k, rfl⟩ : ∃ m, k = m + 1 := ⟨k - 1, by omega⟩
    have hlt : i < s.size := by omega
    rw [name_step k s i (by omega) hs, if_pos (by omega), bt_ok s i hlt]
    cases ho : okB (s[i]'hlt) with
    | false =>
      rw [if_pos (by simp)]
      unfold nameB
      rw [allOk_not i hlt ho]
      simp
    | true =>
      rw [if_neg (by simp)]
      exact ih k (i + 1) (by omega) (by omega) (by omega) (fun j hj hji => by
        by_cases e : j = i
        · subst e; exact ho
        · exact hall j hj (by omega))
theorem name_at (s : ByteArray) (hs : s.size ≤ maxLen) : supercargoref17_Name.f (s.size + 1) s = some (nameB s) := by
  unfold maxLen at hs
  unfold supercargoref17_Name.f supercargoref05_Name.f
  rw [show (0 : Int) = ((0 : Nat) : Int) from rfl, name_loop s (by omega) s.size (s.size + 1) 0 (by omega) (by omega) (by omega) (fun j hj h => absurd h (by omega))]
  rfl
theorem name_ev (s : ByteArray) (hs : s.size ≤ maxLen) : Ev (fun k => supercargoref17_Name.f k s) (nameB s) := Ev.of (supercargoref17_Name.mono s) (name_at s hs)

/-! ### a box's hand-overs -/
def ownP (l : List S41) (box : ByteArray) : List S41 := l.filter fun h => decide (h.f0.toList = box.toList)

theorem own_loop (l : List S41) (box : ByteArray) (hl : l.length ≤ 1000000) (d : Nat) : ∀ (k i : Nat) (acc : List S41), i ≤ l.length → l.length - i = d → d < k → acc.length ≤ i → supercargoref17_Own.l0 k l box acc (i : Int) = some (acc ++ ownP (l.drop i) box) := by
  induction d with
  | zero =>
    intro k i acc hi hd hk ha
    obtain ⟨k, rfl⟩ : ∃ m, k = m + 1 := ⟨k - 1, by omega⟩
    rw [supercargoref17_Own.l0, if_neg (by omega)]
    rw [show l.drop i = [] from List.drop_eq_nil_of_le (by omega)]
    simp [ownP]
  | succ d ih =>
    intro k i acc hi hd hk ha
    obtain ⟨k, rfl⟩ : ∃ m, k = m + 1 := ⟨k - 1, by omega⟩
    have hlt : i < l.length := by omega
    rw [supercargoref17_Own.l0, if_pos (by omega), if_pos (by omega), wrap_one (by omega) (by omega), drop_rd hlt]
    have e : ((i : Int) + 1) = ((i + 1 : Nat) : Int) := by omega
    rw [e]
    by_cases hb : (rd_T41 l (i : Int)).f0.toList = box.toList
    · rw [if_pos hb, if_pos (by omega), ih k (i + 1) _ (by omega) (by omega) (by omega) (by simp; omega)]
      simp [ownP, hb]
    · rw [if_neg hb, ih k (i + 1) _ (by omega) (by omega) (by omega) (by omega)]
      simp [ownP, hb]
theorem own_ev (l : List S41) (box : ByteArray) (hl : l.length ≤ 1000000) : Ev (fun k => supercargoref17_Own.f k l box) (ownP l box) :=
  Ev.of (supercargoref17_Own.mono l box) (k := l.length + 1) (by
    unfold supercargoref17_Own.f
    have := own_loop l box hl l.length (l.length + 1) 0 [] (by omega) (by omega) (by omega) (by simp)
    simpa using this)

/-! ### the boxes -/
def leB (s x : ByteArray) : Bool := Op.bytesLess s.toList x.toList || s.toList == x.toList
def putP (s : ByteArray) : List ByteArray → Bool → List ByteArray
  | [], true => []
  | [], false => [s]
  | x :: t, done => (if done = false ∧ leB s x = true then [s] else []) ++ ((if x.toList = s.toList then [] else [x]) ++ putP s t (done || leB s x))

theorem putP_len (s : ByteArray) : ∀ (l : List ByteArray) (done : Bool), (putP s l done).length ≤ l.length + (if done then 0 else 1) := by
  intro l
  induction l with
  | nil => intro done; cases done <;> simp [putP]
  | cons x t ih =>
    intro done
    have h1 := ih (done || leB s x)
    unfold putP
    simp only [List.length_append, List.length_cons]
    cases done <;> cases hle : leB s x <;> (rw [hle] at h1; simp at h1 ⊢; split <;> simp <;> omega)

theorem rd_bytes {l : List ByteArray} {i : Nat} (h : i < l.length) : l.drop i = rdOf ByteArray.empty l (i : Int) :: l.drop (i + 1) := by
  rw [List.drop_eq_getElem_cons h]
  unfold rdOf
  rw [Int.toNat_natCast, List.getD_eq_getElem?_getD, List.getElem?_eq_getElem h]
  rfl

theorem put_loop (l : List ByteArray) (s : ByteArray) (hl : l.length ≤ 1000000) (d : Nat) : ∀ (k i : Nat) (acc : List ByteArray) (done : Bool), i ≤ l.length → l.length - i = d → 2 * d < k → acc.length ≤ 2 * i → supercargoref17_Put.l0 k l s acc done (i : Int) = some (acc ++ putP s (l.drop i) done) := by
  induction d with
  | zero =>
    intro k i acc done hi hd hk ha
    obtain ⟨k, rfl⟩ : ∃ m, k = m + 1 := ⟨k - 1, by omega⟩
    rw [supercargoref17_Put.l0, if_neg (by omega)]
    rw [show l.drop i = [] from List.drop_eq_nil_of_le (by omega)]
    cases done with
    | true => rw [if_pos rfl]; simp [putP]
    | false => rw [if_neg (by simp), if_pos (by omega)]; rfl
  | succ d ih =>
    intro k i acc done hi hd hk ha
    obtain ⟨k, rfl⟩ : ∃ m, k = m + 2 := ⟨k - 2, by omega⟩
    have hlt : i < l.length := by omega
    have e : ((i : Int) + 1) = ((i + 1 : Nat) : Int) := by omega
    rw [supercargoref17_Put.l0, if_pos (by omega), rd_bytes hlt]
    generalize hx : rdOf ByteArray.empty l (i : Int) = x
    have hj : ∀ b, supercargoref17_Put.j1 (k + 1) l s acc done (i : Int) b = if b = true then (if x.toList = s.toList then supercargoref17_Put.l0 k l s (acc ++ [s]) true ((i + 1 : Nat) : Int) else supercargoref17_Put.l0 k l s (acc ++ [s] ++ [x]) true ((i + 1 : Nat) : Int)) else (if x.toList = s.toList then supercargoref17_Put.l0 k l s acc done ((i + 1 : Nat) : Int) else supercargoref17_Put.l0 k l s (acc ++ [x]) done ((i + 1 : Nat) : Int)) := by
      intro b
      rw [supercargoref17_Put.j1, wrap_one (by omega) (by omega), e, hx]
      cases b with
      | true =>
        simp only [if_true, if_pos (show acc.length < 8796093022208 by omega), if_pos (show (0:Int) ≤ (i:Int) by omega), if_pos (show (i:Int) < (l.length:Int) by omega), Option.bind_some, if_pos (show (acc ++ [s]).length < 8796093022208 by simp; omega)]
      | false =>
        simp only [if_pos (show acc.length < 8796093022208 by omega), if_pos (show (0:Int) ≤ (i:Int) by omega), if_pos (show (i:Int) < (l.length:Int) by omega), Option.bind_some, Bool.false_eq_true, if_false]
    cases done with
    | true =>
      rw [if_pos rfl, hj, if_neg (by simp)]
      by_cases hq : x.toList = s.toList
      · rw [if_pos hq, ih k (i + 1) _ _ (by omega) (by omega) (by omega) (by omega)]
        simp [putP, hq]
      · rw [if_neg hq, ih k (i + 1) _ _ (by omega) (by omega) (by omega) (by simp; omega)]
        simp [putP, hq]
    | false =>
      rw [if_neg (by simp), if_pos (show (0:Int) ≤ (i:Int) by omega), hj]
      have hle : leB s x = (Op.bytesLess s.toList x.toList || s.toList == x.toList) := rfl
      rw [← hle]
      cases hle2 : leB s x with
      | true =>
        rw [if_pos rfl]
        by_cases hq : x.toList = s.toList
        · rw [if_pos hq, ih k (i + 1) _ _ (by omega) (by omega) (by omega) (by simp; omega)]
          simp [putP, hq, hle2]
        · rw [if_neg hq, ih k (i + 1) _ _ (by omega) (by omega) (by omega) (by simp; omega)]
          simp [putP, hq, hle2]
      | false =>
        rw [if_neg (by simp)]
        by_cases hq : x.toList = s.toList
        · rw [if_pos hq, ih k (i + 1) _ _ (by omega) (by omega) (by omega) (by omega)]
          simp [putP, hq, hle2]
        · rw [if_neg hq, ih k (i + 1) _ _ (by omega) (by omega) (by omega) (by simp; omega)]
          simp [putP, hq, hle2]
theorem put_ev (l : List ByteArray) (s : ByteArray) (hl : l.length ≤ 1000000) : Ev (fun k => supercargoref17_Put.f k l s) (putP s l false) :=
  Ev.of (supercargoref17_Put.mono l s) (k := 2 * l.length + 1) (by
    unfold supercargoref17_Put.f
    have := put_loop l s hl l.length (2 * l.length + 1) 0 [] false (by omega) (by omega) (by omega) (by simp)
    simpa using this)

def boxesP (l : List S41) : List ByteArray := l.foldl (fun acc h => putP h.f0 acc false) []
theorem boxes_len (l : List S41) : ∀ acc : List ByteArray, (l.foldl (fun acc h => putP h.f0 acc false) acc).length ≤ acc.length + l.length := by
  induction l with
  | nil => intro acc; simp
  | cons h t ih =>
    intro acc
    have h1 := ih (putP h.f0 acc false)
    have h2 := putP_len h.f0 acc false
    simp only [List.foldl_cons, List.length_cons]
    simp at h2
    omega

theorem boxes_loop (l : List S41) (hl : l.length ≤ 1000) (d : Nat) : ∀ (i : Nat) (acc : List ByteArray), i ≤ l.length → l.length - i = d → acc.length ≤ i → Ev (fun k => supercargoref17_Boxes.l0 k l acc (i : Int)) ((l.drop i).foldl (fun acc h => putP h.f0 acc false) acc) := by
  induction d with
  | zero =>
    intro i acc hi hd ha
    refine Ev.step (f := fun _ => some acc) (fun k => ?_) ?_
    · rw [supercargoref17_Boxes.l0, if_neg (by omega)]
    · rw [show l.drop i = [] from List.drop_eq_nil_of_le (by omega)]
      exact Ev.now _
  | succ d ih =>
    intro i acc hi hd ha
    have hlt : i < l.length := by omega
    have e : ((i : Int) + 1) = ((i + 1 : Nat) : Int) := by omega
    refine Ev.step (f := fun k => (supercargoref17_Put.f k acc ((rd_T41 l (i : Int)).f0)).bind fun t => supercargoref17_Boxes.l0 k l t ((i + 1 : Nat) : Int)) (fun k => ?_) ?_
    · rw [supercargoref17_Boxes.l0, if_pos (by omega), if_pos (by omega), wrap_one (by omega) (by omega), e]
    · rw [drop_rd hlt, List.foldl_cons]
      have hp := putP_len (rd_T41 l (i : Int)).f0 acc false
      refine Ev.bind (put_ev _ _ (by omega)) (ih (i + 1) _ (by omega) (by omega) (by simp at hp; omega))
theorem boxes_ev (l : List S41) (hl : l.length ≤ 1000) : Ev (fun k => supercargoref17_Boxes.f k l) (boxesP l) := by
  have := boxes_loop l hl l.length 0 [] (by omega) (by omega) (by simp)
  simpa [supercargoref17_Boxes.f, boxesP] using this

/-! ### a beginning -/
def beginR (l : List S41) (box who place : ByteArray) (day : Int) : Int :=
  if nm3 box who place = false then 1 else if dayB day = false then 3 else if ownP l box ≠ [] then 5 else if 4096 ≤ (boxesP l).length then 7 else 0

theorem day_at (d : Int) : supercargoref17_day.f d = some (dayB d) := by
  unfold supercargoref17_day.f dayB
  by_cases h : 0 ≤ d <;> simp [h]

theorem begins_ev (l : List S41) (box who place : ByteArray) (day : Int) (hl : l.length ≤ 1000) (h1 : box.size ≤ maxLen) (h2 : who.size ≤ maxLen) (h3 : place.size ≤ maxLen) :
    Ev (fun k => supercargoref17_Begins.f k l box who place day) (beginR l box who place day) := by
  have hj : ∀ b, Ev (fun k => supercargoref17_Begins.j0 k l box day b) (if b = true then 1 else if dayB day = false then 3 else if ownP l box ≠ [] then 5 else if 4096 ≤ (boxesP l).length then 7 else 0) := by
    intro b
    cases b with
    | true => exact Ev.step (f := fun _ => some 1) (fun k => by rw [supercargoref17_Begins.j0, if_pos rfl]) (by rw [if_pos rfl]; exact Ev.now _)
    | false =>
      rw [if_neg (by simp)]
      cases hd : dayB day with
      | false =>
        rw [if_pos rfl]
        exact Ev.step (f := fun _ => some 3) (fun k => by rw [supercargoref17_Begins.j0, if_neg (by simp), day_at, hd]; rfl) (Ev.now _)
      | true =>
        rw [if_neg (by simp)]
        refine Ev.step (f := fun k => (supercargoref17_Own.f k l box).bind fun t143 => (if (t143.length : Int) > 0 then (some 5) else ((supercargoref17_Boxes.f k l).bind fun t146 => (if (t146.length : Int) ≥ 4096 then (some 7) else (some 0))))) (fun k => by rw [supercargoref17_Begins.j0, if_neg (by simp), day_at, hd]; rfl) ?_
        refine Ev.bind (own_ev l box (by omega)) ?_
        by_cases ho : ownP l box = []
        · rw [if_neg (by simp [ho]), ho]
          refine Ev.bind (f := fun k t146 => if ((t146 : List ByteArray).length : Int) ≥ 4096 then some 7 else some 0) (boxes_ev l hl) ?_
          by_cases hb : 4096 ≤ (boxesP l).length
          · rw [if_pos hb]; exact (Ev.now 7).congr (fun k => by rw [if_pos (by omega)])
          · rw [if_neg hb]; exact (Ev.now 0).congr (fun k => by rw [if_neg (by omega)])
        · rw [if_pos ho]
          have : 0 < (ownP l box).length := List.length_pos_iff.2 ho
          exact (Ev.now 5).congr (fun k => by rw [if_pos (by omega)])
  have hn : nm3 box who place = (nameB box && nameB who && nameB place) := by simp [nm3, Bool.and_assoc]
  unfold supercargoref17_Begins.f beginR
  rw [hn]
  refine Ev.bind (name_ev box h1) ?_
  cases nameB box with
  | false => exact (hj true).congr (fun k => by rw [if_neg (by simp)])
  | true =>
    refine Ev.congr (f := fun k => (supercargoref17_Name.f k who).bind fun t140 => (if t140 = true then ((supercargoref17_Name.f k place).bind fun t141 => (supercargoref17_Begins.j0 k l box day (!t141))) else (supercargoref17_Begins.j0 k l box day true))) (fun k => by rw [if_pos rfl]) ?_
    refine Ev.bind (name_ev who h2) ?_
    cases nameB who with
    | false => exact (hj true).congr (fun k => by rw [if_neg (by simp)])
    | true =>
      refine Ev.congr (f := fun k => (supercargoref17_Name.f k place).bind fun t141 => (supercargoref17_Begins.j0 k l box day (!t141))) (fun k => by rw [if_pos rfl]) ?_
      refine Ev.bind (name_ev place h3) ?_
      have := hj (!nameB place)
      revert this
      cases nameB place with
      | false => intro this; simpa using this
      | true => intro this; simpa using this
end Go.Proofs.Ytonnhdffjbpgnaa
