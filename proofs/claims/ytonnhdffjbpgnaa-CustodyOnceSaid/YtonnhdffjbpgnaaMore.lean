/- A chain and its copy tell the same; what is told goes on; rows of texts compared. In plain Lean. Conditions: rows of at most a million. -/
import Derived.Test.YtonnhdffjbpgnaaAcc
import Derived.Test.YtonnhdffjbpgnaaHist
import Derived.Test.YtonnhdffjbpgnaaQTexts
set_option linter.unusedVariables false
set_option linter.unusedSimpArgs false
set_option linter.unusedSectionVars false
namespace Go.Proofs.Ytonnhdffjbpgnaa
open Go.RowKit Go.Proofs.YtonnhdffjbpgnaaW.PrintWords Go.Proofs.YtonnhdffjbpgnaaW.PrintLast Go.Proofs.YtonnhdffjbpgnaaW.PrintMore
open Q

theorem hget_mem {M : List (ByteArray × List S41)} (hn : (M.map (·.1)).Nodup) {x : ByteArray × List S41} (hx : x ∈ M) : hget M x.1 = x.2 := by
  unfold hget
  induction M with
  | nil => simp at hx
  | cons y M ih =>
    simp only [List.map_cons, List.nodup_cons] at hn
    rcases List.mem_cons.1 hx with rfl | hx
    · simp
    · have : ¬ y.1 = x.1 := fun e => hn.1 (by rw [e]; exact List.mem_map.2 ⟨x, hx, rfl⟩)
      rw [List.find?_cons_of_neg (by simpa using this)]
      exact ih hn.2 hx
theorem hget_perm {M M' : List (ByteArray × List S41)} (hp : M'.Perm M) (hn : (M.map (·.1)).Nodup) (box : ByteArray) : hget M' box = hget M box := by
  have hn' : (M'.map (·.1)).Nodup := (hp.map (·.1)).nodup_iff.2 hn
  by_cases h : ∃ x ∈ M, x.1 = box
  · obtain ⟨x, hx, rfl⟩ := h
    rw [hget_mem hn hx, hget_mem hn' (hp.mem_iff.2 hx)]
  · have h1 : M.find? (fun x => decide (x.1 = box)) = none := List.find?_eq_none.2 fun x hx e => h ⟨x, hx, by simpa using e⟩
    have h2 : M'.find? (fun x => decide (x.1 = box)) = none := List.find?_eq_none.2 fun x hx e => h ⟨x, hp.mem_iff.1 hx, by simpa using e⟩
    unfold hget
    rw [h1, h2]
theorem small_perm {n : Nat} {M M' : List (ByteArray × List S41)} (hp : M'.Perm M) (h : Small n M) : Small n M' := ⟨by rw [hp.length_eq]; exact h.1, fun x hx => h.2 x (hp.mem_iff.1 hx)⟩
theorem tells_keys {M : List (ByteArray × List S41)} {done : List S41} (h : Tells M done) {n : Nat} (hs : ∀ x ∈ done, x.f0.size ≤ n) : ∀ x ∈ M, x.1.size ≤ n := by
  intro x hx
  have hne : hget M x.1 ≠ [] := by
    unfold hget
    cases hq : M.find? fun y => decide (y.1 = x.1) with
    | none => exact absurd (List.find?_eq_none.1 hq x hx) (by simp)
    | some y => simpa using h.full y (List.mem_of_find?_eq_some hq)
  rw [h.get] at hne
  obtain ⟨y, hy⟩ := List.exists_mem_of_ne_nil _ hne
  obtain ⟨h1, h2⟩ := List.mem_filter.1 hy
  have h3 : y.f0 = x.1 := bytes_toList_inj (by simpa using h2)
  rw [← h3]
  exact hs y h1
theorem kept_grows (l : List S41) : ∀ done : List S41, ∃ t, kept done l = done ++ t := by
  induction l with
  | nil => intro done; exact ⟨[], by simp [kept]⟩
  | cons x t ih =>
    intro done
    rw [kept]
    split
    · obtain ⟨u, hu⟩ := ih (done ++ [x])
      exact ⟨[x] ++ u, by rw [hu]; simp⟩
    · exact ih done
theorem own_grows (done l : List S41) (box : ByteArray) : ∃ t, ownP (kept done l) box = ownP done box ++ t := by
  obtain ⟨t, ht⟩ := kept_grows l done
  exact ⟨ownP t box, by rw [ht]; unfold ownP; rw [List.filter_append]⟩

theorem texts_loop (l : List ByteArray) (hl : l.length ≤ 1000000) (d : Nat) : ∀ (k i : Nat), i ≤ l.length → l.length - i = d → d < k → supercargoref17_Texts.l0 k l l (i : Int) = some true := by
  induction d with
  | zero =>
    intro k i hi hd hk
    obtain ⟨k, rfl⟩ : ∃ m, k = m + 1 := ⟨k - 1, by omega⟩
    rw [supercargoref17_Texts.l0, if_neg (by omega)]
  | succ d ih =>
    intro k i hi hd hk
    obtain ⟨k, rfl⟩ : ∃ m, k = m + 1 := ⟨k - 1, by omega⟩
    rw [supercargoref17_Texts.l0, if_pos (by omega), if_pos (by omega), if_pos (by omega), wrap_one (by omega) (by omega), if_pos rfl]
    exact ih k (i + 1) (by omega) (by omega) (by omega)
theorem texts_f (l : List ByteArray) (hl : l.length ≤ 1000000) : supercargoref17_Texts.f (l.length + 1) l l = some true := by
  unfold supercargoref17_Texts.f
  rw [if_pos rfl]
  exact texts_loop l hl l.length (l.length + 1) 0 (by omega) (by omega) (by omega)
theorem texts_any (A0 A1 : Option Addr) (c0 c1 : Nat) (l0 l1 : List ByteArray) (w : World) (h : l0 = l1) (h0 : Kd.C Kd.string w A0 l0.length l0) (hc0 : l0.length ≤ c0) (h1 : Kd.C Kd.string w A1 l1.length l1) (hc1 : l1.length ≤ c1) (hl : l0.length ≤ 1000000) :
    Calls Try.prog 23 #[.slice A0 l0.length c0, .slice A1 l1.length c1] w fun e w' => e = .returned (.bool true) ∧ Below w.heap.size w w' := by
  subst h
  refine (supercargoref17_Texts.calls (l0.length + 1) A0 c0 l0 A1 c1 l0 true w h0 hc0 h1 hc1 (texts_f l0 hl)).mono ?_
  rintro e w' ⟨rfl, n, rfl⟩
  exact ⟨rfl, pw_below_drewN (Below.refl _ _) _⟩
theorem same_n (A0 A1 : Option Addr) (c0 c1 n0 n1 : Nat) (l0 l1 : List S41) (w : World) (h : l0 = l1) (h0 : Kd.C k41 w A0 n0 l0) (hc0 : n0 ≤ c0) (h1 : Kd.C k41 w A1 n1 l1) (hc1 : n1 ≤ c1) (hl : l0.length ≤ 1000000) :
    Calls Try.prog 14 #[.slice A0 n0 c0, .slice A1 n1 c1] w fun e w' => e = .returned (.bool true) ∧ Below w.heap.size w w' := by
  obtain rfl : l0.length = n0 := h0.1
  obtain rfl : l1.length = n1 := h1.1
  exact same_any A0 A1 c0 c1 l0 l1 w h h0 hc0 h1 hc1 hl
theorem text_tight {w : World} {B : Nat} {ok : Nat → Prop} {v : Value} {l : List ByteArray} (h : Kd.R Kd.string 9 w B ok v l) : Kd.R Kd.string 9 w B (fun k => v.ownBlock = some k) v l := by
  obtain ⟨h0, inner, hown, hreps⟩ := h
  exact ⟨fun k hk => hk, inner, hown, hreps⟩
theorem text_step {w w' : World} {B : Nat} {ok : Nat → Prop} {v : Value} {l : List ByteArray} (h : Kd.R Kd.string 9 w B ok v l) (hk : ∀ k, B ≤ k → k < w.heap.size → w'.heap[k]? = w.heap[k]?) : Kd.R Kd.string 9 w' B (fun _ => True) v l :=
  Kd.R_mono (Kd.R_step (text_tight h) (fun k ho hlt => hk k (Kd.R_base h k ho) hlt)) (fun _ _ => trivial)
theorem hand_step {w w' : World} {B : Nat} {ok : Nat → Prop} {v : Value} {l : List S41} (h : Kd.R k41 41 w B ok v l) (hk : ∀ k, B ≤ k → k < w.heap.size → w'.heap[k]? = w.heap[k]?) : Kd.R k41 41 w' B (fun _ => True) v l :=
  Kd.R_mono (Kd.R_step (hand_tight h) (fun k ho hlt => hk k (Kd.R_base h k ho) hlt)) (fun _ _ => trivial)
end Go.Proofs.Ytonnhdffjbpgnaa
