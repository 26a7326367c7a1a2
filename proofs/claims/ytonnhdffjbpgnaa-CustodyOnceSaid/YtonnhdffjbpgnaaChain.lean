/- The chain of a run: how its boxes lie in memory; what turns of it and what doesn't. Conditions: none. -/
import Derived.Test.YtonnhdffjbpgnaaMaps
import Derived.Test.YtonnhdffjbpgnaaNames
import Derived.Test.YtonnhdffjbpgnaaQx0
import Derived.Test.YtonnhdffjbpgnaaWInvWords
set_option linter.unusedVariables false
set_option linter.unusedSimpArgs false
set_option linter.unusedSectionVars false
namespace Go.Proofs.Ytonnhdffjbpgnaa
open Go.RowKit Go.Proofs.YtonnhdffjbpgnaaW.PrintWords Go.Proofs.YtonnhdffjbpgnaaW.PrintLast Go.Proofs.YtonnhdffjbpgnaaW.PrintMore
open Q

/-- From w to w' only blocks of 'ok' (and new ones) have turned. -/
structure Turns (ok : Nat → Prop) (w w' : World) : Prop where
  os : w'.os = w.os
  tape : w'.tape = w.tape
  output : w'.output = w.output
  size : w.heap.size ≤ w'.heap.size
  block : ∀ k, k < w.heap.size → ¬ ok k → w'.heap[k]? = w.heap[k]?

theorem Turns.refl (ok : Nat → Prop) (w : World) : Turns ok w w := ⟨rfl, rfl, rfl, Nat.le_refl _, fun _ _ _ => rfl⟩
theorem Turns.trans {ok : Nat → Prop} {a b c : World} (h : Turns ok a b) (k : Turns ok b c) : Turns ok a c :=
  ⟨k.os.trans h.os, k.tape.trans h.tape, k.output.trans h.output, Nat.le_trans h.size k.size, fun i hi ho => (k.block i (Nat.lt_of_lt_of_le hi h.size) ho).trans (h.block i hi ho)⟩
theorem Turns.of_below {ok : Nat → Prop} {w w' : World} (h : Below w.heap.size w w') : Turns ok w w' := ⟨h.os, h.tape, h.output, h.size, fun k hk _ => h.block k hk⟩
theorem Turns.of_turned {ok : Nat → Prop} {r : Nat} {w w' : World} (h : Turned r w w') (hr : ok r) : Turns ok w w' :=
  ⟨h.os, h.tape, h.output, Nat.le_of_eq h.size.symm, fun k hk ho => h.block k (fun e => ho (e ▸ hr))⟩
theorem Turns.of_grown {ok : Nat → Prop} {row : Option Nat} {w w' : World} (h : w.grownBy w' row) (hr : ∀ k, row = some k → ok k) : Turns ok w w' :=
  ⟨h.os, h.tape, h.output, h.size, fun k hk ho => h.block k hk (fun e => ho (hr k e.symm))⟩
theorem Turns.below {ok : Nat → Prop} {B : Nat} {w w' : World} (h : Turns ok w w') (hB : B ≤ w.heap.size) (hok : ∀ k, k < B → ¬ ok k) : Below B w w' :=
  ⟨h.os, h.tape, h.output, h.size, fun k hk => h.block k (Nat.lt_of_lt_of_le hk hB) (hok k hk)⟩
theorem Turns.mono {ok ok' : Nat → Prop} {w w' : World} (h : Turns ok w w') (hm : ∀ k, k < w.heap.size → ok k → ok' k) : Turns ok' w w' :=
  ⟨h.os, h.tape, h.output, h.size, fun k hk ho => h.block k hk (fun hc => ho (hm k hk hc))⟩

/-- A box of a chain as it lies: its name, the slice's value, its hand-overs. -/
abbrev BoxRow := ByteArray × Value × List S41

/-- THE CHAIN AT p: among the blocks 'ok' from B on. -/
structure ChainAt (w : World) (B : Nat) (ok : Nat → Prop) (p : Nat) (E : List BoxRow) (r : Nat) : Prop where
  ptr : w.heap[p]? = some (.cells #[.map (some r)] 65 (0, 0))
  map : MapAt Value.string w r (E.map fun x => (x.1, x.2.1))
  rows : ∀ x ∈ E, Kd.R k41 41 w B ok x.2.1 x.2.2 ∧ x.2.2 ≠ []
  apart : E.Pairwise fun x y => x.2.1.ownBlock ≠ y.2.1.ownBlock
  okp : ok p ∧ B ≤ p
  okr : ok r ∧ B ≤ r

def hands (E : List BoxRow) : List (ByteArray × List S41) := E.map fun x => (x.1, x.2.2)

/-- A box's hand-overs: none, if it isn't there. -/
def hget (M : List (ByteArray × List S41)) (box : ByteArray) : List S41 := ((M.find? fun x => decide (x.1 = box)).map (·.2)).getD []

theorem ChainAt.cell {w : World} {B : Nat} {ok : Nat → Prop} {p : Nat} {E : List BoxRow} {r : Nat} (h : ChainAt w B ok p E r) : w.cell? ⟨p, 0, none⟩ = some (.map (some r)) := by
  simp [World.cell?, h.ptr]
theorem ChainAt.step {w w' : World} {B : Nat} {ok : Nat → Prop} {p : Nat} {E : List BoxRow} {r : Nat} (h : ChainAt w B ok p E r) (hm : ∀ k, ok k → k < w.heap.size → w'.heap[k]? = w.heap[k]?) : ChainAt w' B ok p E r where
  ptr := (hm p h.okp.1 (Array.getElem?_eq_some_iff.1 h.ptr).1).trans h.ptr
  map := h.map.keep (hm r h.okr.1 h.map.lt)
  rows := fun x hx => ⟨Kd.R_step (h.rows x hx).1 hm, (h.rows x hx).2⟩
  apart := h.apart
  okp := h.okp
  okr := h.okr
theorem ChainAt.below {w w' : World} {B : Nat} {ok : Nat → Prop} {p : Nat} {E : List BoxRow} {r : Nat} (h : ChainAt w B ok p E r) (hb : Below w.heap.size w w') : ChainAt w' B ok p E r := h.step fun k _ hk => hb.block k hk
theorem ChainAt.plt {w : World} {B : Nat} {ok : Nat → Prop} {p : Nat} {E : List BoxRow} {r : Nat} (h : ChainAt w B ok p E r) : p < w.heap.size := (Array.getElem?_eq_some_iff.1 h.ptr).1

theorem seek_rows {E : List BoxRow} {box : ByteArray} : ∀ i n v, seek box (E.map fun x => (x.1, x.2.1)) i = some (n, v) → ∃ x ∈ E, x.1 = box ∧ x.2.1 = v := by
  induction E with
  | nil => intro i n v h; simp [seek] at h
  | cons y E ih =>
    intro i n v h
    simp only [List.map_cons] at h
    unfold seek at h
    split at h
    · rename_i e
      simp only [Option.some.injEq, Prod.mk.injEq] at h
      exact ⟨y, by simp, e.symm, h.2⟩
    · obtain ⟨x, hx, h1, h2⟩ := ih _ _ _ h
      exact ⟨x, by simp [hx], h1, h2⟩

/-- What the look-up finds: the box's row, or none. -/
theorem find_row (E : List BoxRow) (box : ByteArray) : (mget (E.map fun x => (x.1, x.2.1)) box = none ∧ hget (hands E) box = [] ∧ ∀ x ∈ E, x.1 ≠ box) ∨
    ∃ A x C, E = A ++ x :: C ∧ x.1 = box ∧ (∀ y ∈ A, y.1 ≠ box) ∧ mget (E.map fun x => (x.1, x.2.1)) box = some x.2.1 ∧ hget (hands E) box = x.2.2 := by
  induction E with
  | nil => exact .inl ⟨rfl, rfl, by simp⟩
  | cons y E ih =>
    by_cases hy : box = y.1
    · refine .inr ⟨[], y, E, rfl, hy.symm, by simp, ?_, ?_⟩
      · simp [mget, seek, hy]
      · simp [hget, hands, hy]
    · have e1 : mget ((y :: E).map fun x => (x.1, x.2.1)) box = mget (E.map fun x => (x.1, x.2.1)) box := by
        unfold mget
        simp only [List.map_cons]
        rw [seek, if_neg hy]
        have := seek_shift box (E.map fun x => (x.1, x.2.1)) 0 1
        rw [this, Option.map_map]
        rfl
      have e2 : hget (hands (y :: E)) box = hget (hands E) box := by
        simp [hget, hands, Ne.symm hy]
      rw [e1, e2]
      rcases ih with ⟨h1, h2, h3⟩ | ⟨A, x, C, h1, h2, h3, h4, h5⟩
      · exact .inl ⟨h1, h2, fun x hx => by
          rcases List.mem_cons.1 hx with rfl | hx
          · exact Ne.symm hy
          · exact h3 x hx⟩
      · exact .inr ⟨y :: A, x, C, by rw [h1]; rfl, h2, fun z hz => by
          rcases List.mem_cons.1 hz with rfl | hz
          · exact Ne.symm hy
          · exact h3 z hz, h4, h5⟩

/-- Three texts in a new row. -/
theorem texts_new (w : World) (xs : List ByteArray) (hx : xs ≠ []) (hl : xs.length ≤ 9223372036854775807) : Kd.C Kd.string (w.alloc (.cells (xs.map Value.string).toArray 9)) (some ⟨w.heap.size, 0, none⟩) xs.length xs := by
  refine ⟨rfl, hl, fun _ => ⟨_, rfl, fun j p hj => ⟨[.string p], rfl, rfl, fun i u hu => ?_⟩⟩⟩
  cases i with
  | succ i => simp at hu
  | zero =>
    have : Value.string p = u := by simpa using hu
    subst this
    have e : (⟨w.heap.size, 0, none⟩ : Addr).add (j * Kd.string.sz + 0) = ⟨w.heap.size, j, none⟩ := by
      rw [add_plain]; simp [Kd.string, Kd.scalar]
    rw [e, World.cell?_alloc_new]
    simp [hj]

def handCells (h : S41) : List Value := [.string h.f0, .string h.f1, .string h.f2, .string h.f3, .int .i64 h.f4]
/-- A row of one hand-over, new. -/
theorem hand_new (W : World) (B : Nat) (ok : Nat → Prop) (h : S41) (hB : B ≤ W.heap.size) (hok : ok W.heap.size) :
    Kd.R k41 41 (W.alloc (.cells #[.string h.f0, .string h.f1, .string h.f2, .string h.f3, .int .i64 h.f4] 41)) B ok (.slice (some ⟨W.heap.size, 0, none⟩) 1 1) [h] := by
  refine ⟨fun k hk => ?_, handCells h, ⟨rfl, .inr ⟨W.heap.size, 1, _, rfl, hB, heap_alloc_new W _, Nat.le_refl _, by unfold maxLen; omega, rfl, rfl⟩⟩, ?_⟩
  · have : W.heap.size = k := by simpa [Value.ownBlock] using hk
    exact this ▸ hok
  · exact Reps.snoc (Reps.none _ _) (k41_mkM _ _ _ h) rfl

/-- A box more, in a row of its own that is none of the others'. -/
theorem ChainAt.more {w w1 : World} {B : Nat} {ok : Nat → Prop} {p : Nat} {E : List BoxRow} {r : Nat} (h : ChainAt w B ok p E r) (box : ByteArray) (v : Value) (l : List S41) (hn : ∀ x ∈ E, x.1 ≠ box)
    (hb : ∀ k, ok k → k < w.heap.size → k ≠ r → w1.heap[k]? = w.heap[k]?) (hM : MapAt Value.string w1 r (mput (E.map fun x => (x.1, x.2.1)) box v)) (hR : Kd.R k41 41 w1 B ok v l) (hl : l ≠ []) (hv : ∀ k, v.ownBlock = some k → w.heap.size ≤ k) (hvs : v.ownBlock ≠ none) :
    ChainAt w1 B ok p (E ++ [(box, v, l)]) r := by
  have hrow : ∀ x ∈ E, ∀ k, x.2.1.ownBlock = some k → k < w.heap.size := by
    intro x hx k hk
    obtain ⟨inner, ho⟩ := Kd.R_own (h.rows x hx).1
    exact own_lt ho k hk
  have hpr : p ≠ r := by
    rintro rfl
    obtain ⟨es, clock, hb', _⟩ := h.map
    rw [h.ptr] at hb'
    cases hb'
  have hcell : ∀ x ∈ E, Kd.R k41 41 w1 B ok x.2.1 x.2.2 := by
    intro x hx
    have h1 := Kd.R_bound (h.rows x hx).1
    refine Kd.R_mono (Kd.R_step h1 (fun k hk hlt => hb k hk.1 hlt ?_)) (fun k hk => hk.1)
    rintro rfl
    obtain ⟨_, _, _, q, _, cells, hc⟩ := hk
    obtain ⟨es, clock, hb', _⟩ := h.map
    rw [hc] at hb'
    cases hb'
  refine ⟨(hb p h.okp.1 h.plt hpr).trans h.ptr, ?_, ?_, ?_, h.okp, h.okr⟩
  · have hs : seek box (E.map fun x => (x.1, x.2.1)) 0 = none := by
      rw [seek_none]
      intro q hq
      obtain ⟨x, hx, rfl⟩ := List.mem_map.1 hq
      exact hn x hx
    have : mput (E.map fun x => (x.1, x.2.1)) box v = (E ++ [(box, v, l)]).map fun x => (x.1, x.2.1) := by
      unfold mput
      rw [hs]
      simp
    rw [← this]
    exact hM
  · intro x hx
    rcases List.mem_append.1 hx with hx | hx
    · exact ⟨hcell x hx, (h.rows x hx).2⟩
    · rw [List.mem_singleton.1 hx]
      exact ⟨hR, hl⟩
  · refine List.pairwise_append.2 ⟨h.apart, by simp, ?_⟩
    intro x hx y hy
    rw [List.mem_singleton.1 hy]
    intro e
    cases hv' : v.ownBlock with
    | none => exact hvs hv'
    | some k =>
      have h1 := hv k hv'
      have h2 := hrow x hx k (by simpa [hv'] using e)
      omega

theorem k41_flat {w : World} {base : Nat} {ok1 ok2 : Nat → Prop} {x : S41} {cs : List Value} (h : k41.M w base ok1 x cs) : k41.M w base ok2 x cs := by
  rw [k41_openM h]
  exact k41_mkM _ _ _ x

theorem seek_split {K : Type} [DecidableEq K] (A C : List (K × Value)) (k : K) (v : Value) (hA : ∀ y ∈ A, y.1 ≠ k) : seek k (A ++ (k, v) :: C) 0 = some (A.length, v) := by
  induction A with
  | nil => simp [seek]
  | cons y A ih =>
    have hy : ¬ k = y.1 := fun e => hA y (by simp) e.symm
    rw [List.cons_append, seek, if_neg hy]
    have := seek_shift k (A ++ (k, v) :: C) 0 1
    rw [this, ih (fun z hz => hA z (by simp [hz]))]
    simp

/-- A box's row is another one; nothing else of the chain has turned. -/
theorem ChainAt.grow {w w1 : World} {B : Nat} {ok : Nat → Prop} {p : Nat} {A C : List BoxRow} {x : BoxRow} {r : Nat} (h : ChainAt w B ok p (A ++ x :: C) r) (v : Value) (l : List S41) (hA : ∀ y ∈ A, y.1 ≠ x.1)
    (hb : ∀ k, ok k → k < w.heap.size → k ≠ r → some k ≠ x.2.1.ownBlock → w1.heap[k]? = w.heap[k]?) (hM : MapAt Value.string w1 r (mput ((A ++ x :: C).map fun x => (x.1, x.2.1)) x.1 v)) (hR : Kd.R k41 41 w1 B ok v l) (hl : l ≠ [])
    (hv : v.ownBlock = x.2.1.ownBlock ∨ ∃ b, v.ownBlock = some b ∧ w.heap.size ≤ b) :
    ChainAt w1 B ok p (A ++ (x.1, v, l) :: C) r := by
  have htype : ∀ y ∈ A ++ x :: C, ∀ k, y.2.1.ownBlock = some k → k < w.heap.size ∧ ∃ cells, w.heap[k]? = some (.cells cells 41 (0, 0)) := by
    intro y hy k hk
    obtain ⟨inner, ho⟩ := Kd.R_own (h.rows y hy).1
    exact ⟨own_lt ho k hk, own_typed ho k hk⟩
  have hpr : p ≠ r := by
    rintro rfl
    obtain ⟨es, clock, hb', _⟩ := h.map
    rw [h.ptr] at hb'
    cases hb'
  have hpx : some p ≠ x.2.1.ownBlock := by
    intro e
    obtain ⟨_, cells, hc⟩ := htype x (by simp) p e.symm
    rw [h.ptr] at hc
    cases hc
  have hother : ∀ y, y ∈ A ∨ y ∈ C → y.2.1.ownBlock ≠ x.2.1.ownBlock := by
    intro y hy
    have hp := List.pairwise_append.1 h.apart
    rcases hy with hy | hy
    · exact hp.2.2 y hy x (by simp)
    · exact ((List.pairwise_cons.1 hp.2.1).1 y hy).symm
  have hcell : ∀ y, y ∈ A ∨ y ∈ C → Kd.R k41 41 w1 B ok y.2.1 y.2.2 ∧ y.2.2 ≠ [] := by
    intro y hy
    have hym : y ∈ A ++ x :: C := by rcases hy with hy | hy <;> simp [hy]
    obtain ⟨hRy, hney⟩ := h.rows y hym
    have h1 : Kd.R k41 41 w B (fun k => y.2.1.ownBlock = some k ∧ ok k) y.2.1 y.2.2 := Kd.R_flat (fun hm => k41_flat hm) hRy (fun k hk ho => ⟨hk, ho⟩)
    refine ⟨Kd.R_mono (Kd.R_step h1 (fun k hk hlt => hb k hk.2 hlt ?_ ?_)) (fun k hk => hk.2), hney⟩
    · rintro rfl
      obtain ⟨_, cells, hc⟩ := htype y hym k hk.1
      obtain ⟨es, clock, hb', _⟩ := h.map
      rw [hc] at hb'
      cases hb'
    · rw [← hk.1]
      exact hother y hy
  have hvo : ∀ y, y ∈ A ∨ y ∈ C → y.2.1.ownBlock ≠ v.ownBlock := by
    intro y hy
    rcases hv with hv | ⟨b, hv, hle⟩
    · rw [hv]; exact hother y hy
    · rw [hv]
      intro e
      have hym : y ∈ A ++ x :: C := by rcases hy with hy | hy <;> simp [hy]
      have := (htype y hym b e).1
      omega
  refine ⟨(hb p h.okp.1 h.plt hpr hpx).trans h.ptr, ?_, ?_, ?_, h.okp, h.okr⟩
  · have hs := seek_split (A.map fun x => (x.1, x.2.1)) (C.map fun x => (x.1, x.2.1)) x.1 x.2.1 (fun y hy => by
      obtain ⟨z, hz, rfl⟩ := List.mem_map.1 hy
      exact hA z hz)
    have : mput ((A ++ x :: C).map fun x => (x.1, x.2.1)) x.1 v = (A ++ (x.1, v, l) :: C).map fun x => (x.1, x.2.1) := by
      unfold mput
      rw [List.map_append, List.map_cons, hs]
      simp only [List.length_map, List.map_append, List.map_cons]
      apply List.ext_getElem?
      intro j
      simp only [List.getElem?_modify, List.getElem?_append, List.length_map]
      by_cases hj : j < A.length
      · have : ¬ A.length = j := by omega
        simp [hj, this]
      · by_cases hj2 : A.length = j
        · subst hj2; simp
        · obtain ⟨i, hi⟩ : ∃ i, j - A.length = i + 1 := ⟨j - A.length - 1, by omega⟩
          simp [hj, hj2, hi]
    rw [← this]
    exact hM
  · intro y hy
    rcases List.mem_append.1 hy with hy | hy
    · exact hcell y (.inl hy)
    · rcases List.mem_cons.1 hy with rfl | hy
      · exact ⟨hR, hl⟩
      · exact hcell y (.inr hy)
  · have hp := List.pairwise_append.1 h.apart
    have hp2 := List.pairwise_cons.1 hp.2.1
    refine List.pairwise_append.2 ⟨hp.1, List.pairwise_cons.2 ⟨fun y hy => (hvo y (.inr hy)).symm, hp2.2⟩, fun y hy z hz => ?_⟩
    rcases List.mem_cons.1 hz with rfl | hz
    · exact hvo y (.inl hy)
    · exact hp.2.2 y hy z (by simp [hz])

theorem hand_row {w W : World} {B gg cap : Nat} {okk : Nat → Prop} {l : List S41} {h : S41} {inner : List Value} (hown : w.ownsRow B 41 5 (.slice (some ⟨gg, 0, none⟩) (l.length + 1) cap) (l.length + 1) (inner ++ handCells h)) (hreps : Reps (k41.M W B okk) k41.sz l inner) :
    Kd.R k41 41 w B (fun k => k = gg) (.slice (some ⟨gg, 0, none⟩) (l.length + 1) cap) (l ++ [h]) := by
  refine ⟨fun k hk => ?_, inner ++ handCells h, ?_, ?_⟩
  · have : gg = k := by simpa [Value.ownBlock] using hk
    exact this.symm
  · have e : (l ++ [h]).length = l.length + 1 := by simp
    rw [e]
    exact hown
  · refine Reps.snoc (hreps.imp_ fun p c hp => ?_) (k41_mkM _ _ _ h) rfl
    rw [k41_openM hp]
    exact k41_mkM _ _ _ p
end Go.Proofs.Ytonnhdffjbpgnaa
