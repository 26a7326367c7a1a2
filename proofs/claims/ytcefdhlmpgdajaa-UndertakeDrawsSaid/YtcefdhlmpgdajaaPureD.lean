/- The plain law of a life's history: what was shown and paid, told by the events alone. Conditions: the credit may live. -/
import Derived.Test.YtcefdhlmpgdajaaPureU
set_option linter.unusedVariables false
set_option linter.unusedSimpArgs false
set_option linter.unusedSectionVars false
namespace Go.Proofs.Ytcefdhlmpgdajaa
open Go.RowKit Go.Proofs.YtcefdhlmpgdajaaW.PrintWords Go.Proofs.YtcefdhlmpgdajaaW.PrintLast Go.Proofs.YtcefdhlmpgdajaaW.PrintMore
open Q

/-- What the law reckons along a history: paid, shown last, whether it is open. -/
structure Scn where
  pd : Int
  nw : Int
  op : Bool
def stp (t : Tm) (x : Scn) (e : S40) : Scn :=
  if e.f0 = 2 then { x with nw := e.f3 } else if e.f0 = 5 then { x with pd := x.pd + x.nw, op := true } else if e.f0 = 6 then (if e.f1 = t.app then { x with op := false } else x) else x
/-- What it asks at an event (last: is it the last one?). -/
def chk (t : Tm) (x : Scn) (e : S40) (last : Bool) : Bool :=
  if e.f0 = 2 then !x.op && !decide (t.exp < e.f2) else if e.f0 = 6 then x.op else if e.f0 = 7 then (!x.op && last) && decide (t.exp < e.f2) else true
def scn (t : Tm) (h : List S40) : Scn := h.foldl (stp t) ⟨0, 0, false⟩
theorem scn_snoc (t : Tm) (h : List S40) (e : S40) : scn t (h ++ [e]) = stp t (scn t h) e := by simp [scn]
def Bnd (x : Scn) : Prop := 0 ≤ x.pd ∧ x.pd ≤ 4398046511104 ∧ 0 ≤ x.nw ∧ x.nw ≤ 4398046511104
/-- At each event of a history it finds what it asks. -/
def Okay (t : Tm) (h : List S40) : Prop := ∀ i e, h[i]? = some e → chk t (scn t (h.take i)) e (decide (i + 1 = h.length)) = true ∧ Bnd (scn t (h.take i))
/-- How a life's history tells of how it stands. -/
structure Told (t : Tm) (s : LS) : Prop where
  okay : Okay t s.hist
  op : (scn t s.hist).op = decide (s.st = 5)
  pd : (scn t s.hist).pd = sumD s.paid
  nw : s.st = 2 ∨ s.st = 4 → (scn t s.hist).nw = s.da
  bnd : Bnd (scn t s.hist)
  pos : 0 ≤ sumD s.paid
  most : sumD s.paid + (if s.st = 2 ∨ s.st = 4 then s.da else 0) ≤ mostI t
  noexp : s.st ≠ 7 → ∀ e ∈ s.hist, e.f0 ≠ 7

theorem okay_snoc {t : Tm} {h : List S40} (ho : Okay t h) (hn : ∀ e ∈ h, e.f0 ≠ 7) (hb : Bnd (scn t h)) (e : S40) (hc : chk t (scn t h) e true = true) : Okay t (h ++ [e]) := by
  intro i x hx
  by_cases hi : i < h.length
  · have hx2 : h[i]? = some x := by rw [List.getElem?_append_left hi] at hx; exact hx
    obtain ⟨h1, h2⟩ := ho i x hx2
    have ht : (h ++ [e]).take i = h.take i := List.take_append_of_le_length (by omega)
    rw [ht]
    refine ⟨?_, h2⟩
    have h7 := hn x (List.mem_of_getElem? hx2)
    unfold chk at h1 ⊢
    split at h1
    · rename_i c2; rw [if_pos c2]; exact h1
    · rename_i c2
      rw [if_neg c2]
      split at h1
      · rename_i c6; rw [if_pos c6]; exact h1
      · rename_i c6; rw [if_neg c6, if_neg h7]
  · have hlt := (List.getElem?_eq_some_iff.1 hx).1
    have hi2 : i = h.length := by simp at hlt; omega
    subst hi2
    have hxe : x = e := by
      rw [List.getElem?_append_right (Nat.le_refl _)] at hx
      simpa using hx.symm
    subst hxe
    rw [List.take_left]
    refine ⟨?_, hb⟩
    have : decide (h.length + 1 = (h ++ [x]).length) = true := by simp
    rw [this]
    exact hc

theorem most_top {t : Tm} (h : boundsB t = true) : mostI t ≤ 2199023255552 := by
  obtain ⟨_, h2⟩ := most_facts h
  unfold mostI
  omega

theorem told_new (t : Tm) (h : boundsB t = true) : Told t newS := by
  have hm := most_facts h
  refine ⟨fun i e he => by simp [newS] at he, rfl, rfl, fun hh => by simp [newS] at hh, (by show Bnd ⟨0, 0, false⟩; exact ⟨by decide, by decide, by decide, by decide⟩), by decide, ?_, fun _ e he => by simp [newS] at he⟩
  have : 0 ≤ mostI t := by unfold mostI; omega
  simpa [newS, sumD] using this

theorem told_snoc {t : Tm} {s s1 : LS} {ev : S40} (h : Told t s) (hno : ∀ e ∈ s.hist, e.f0 ≠ 7) (hc : chk t (scn t s.hist) ev true = true) (hop : (stp t (scn t s.hist) ev).op = decide (s1.st = 5)) (hpd : (stp t (scn t s.hist) ev).pd = sumD s1.paid)
    (hnw : s1.st = 2 ∨ s1.st = 4 → (stp t (scn t s.hist) ev).nw = s1.da) (hb : Bnd (stp t (scn t s.hist) ev)) (hpos : 0 ≤ sumD s1.paid) (hmost : sumD s1.paid + (if s1.st = 2 ∨ s1.st = 4 then s1.da else 0) ≤ mostI t) (hne : s1.st ≠ 7 → ev.f0 ≠ 7) : Told t { s1 with hist := s.hist ++ [ev] } where
  okay := okay_snoc h.okay hno h.bnd ev hc
  op := by rw [scn_snoc]; exact hop
  pd := by rw [scn_snoc]; exact hpd
  nw := by rw [scn_snoc]; exact hnw
  bnd := by rw [scn_snoc]; exact hb
  pos := hpos
  most := hmost
  noexp := fun h7 e he => by
    rcases List.mem_append.1 he with he | he
    · exact hno e he
    · rw [List.mem_singleton.1 he]
      exact hne h7

theorem told_step {t : Tm} (hb : boundsB t = true) {s : LS} (h : Told t s) (hsn : Sane t s) (ev : S40) : Told t (doS t s ev) := by
  rcases doS_cases t s ev with ⟨_, he⟩ | ⟨h0, he⟩
  · rw [he]; exact h
  · rw [he]
    have htop := most_top hb
    obtain ⟨hr, _, hst, hby, hth⟩ := doR_ok h0
    obtain ⟨k0, k7⟩ := right_kind hr
    have hin := stands_in hst
    have hst7 : s.st ≠ 7 := by
      intro h7
      rw [h7] at hin
      rcases kind_cases k0 k7 with e | e | e | e | e | e | e | e <;> rw [e] at hin <;> simp [inK] at hin
    have hno := h.noexp hst7
    have hop := h.op
    have hpd := h.pd
    have hnw := h.nw
    have hpos := h.pos
    have hmost := h.most
    obtain ⟨b1, b2, b3, b4⟩ := h.bnd
    have hT := @told_snoc t s (thenS t s ev ev.f0) ev h hno
    generalize scn t s.hist = x at hT hop hpd hnw b1 b2 b3 b4
    obtain ⟨pd, nw, op⟩ := x
    simp only at hop hpd hnw b1 b2 b3 b4
    rcases kind_cases k0 k7 with e | e | e | e | e | e | e | e
    · have hs : s.st = 0 := by simpa [inK, e] using hin
      apply hT <;> simp_all [stp, chk, thenS, Bnd]
    · have hs : s.st = 1 := by simpa [inK, e] using hin
      apply hT <;> simp_all [stp, chk, thenS, Bnd]
    · have hs : s.st = 1 ∨ s.st = 3 ∨ s.st = 6 := by simpa [inK, e] using hin
      have hm : mayE t s.paid (evD ev) = 0 := by simpa [thenR, e] using hth
      obtain ⟨_, _, h3, _, h5, _⟩ := mayE_ok hm
      have h6 := mayE_sum hm
      rw [sumD_append] at h5
      simp only [sumD, evD] at h3 h5 h6
      have hS : thenS t s ev ev.f0 = { s with dd := ev.f2, da := ev.f3, st := 2 } := by rw [e]; simp [thenS, hm]
      rw [hS] at hT ⊢
      have hop2 : op = false := by rw [hop]; simp; omega
      apply hT
      · simp [chk, e, hop2]; omega
      · simp [stp, e, hop2]
      · simpa [stp, e] using hpd
      · intro _; simp [stp, e]
      · simp only [stp, e, if_true, Bnd]; omega
      · exact hpos
      · simp; omega
      · intro _; rw [e]; decide
    · have hs : s.st = 2 := by simpa [inK, e] using hin
      have hd := hsn (.inl hs)
      rw [if_pos (.inl hs)] at hmost
      have hS : thenS t s ev ev.f0 = { s with st := 3 } := by rw [e]; simp [thenS]
      rw [hS] at hT ⊢
      apply hT
      · simp [chk, e]
      · simp [stp, e, hop, hs]
      · simpa [stp, e] using hpd
      · intro h; simp at h
      · simp only [stp, e, Bnd]; exact ⟨b1, b2, b3, b4⟩
      · exact hpos
      · simp; omega
      · intro _; rw [e]; decide
    · have hs : s.st = 2 := by simpa [inK, e] using hin
      rw [if_pos (.inl hs)] at hmost
      have hS : thenS t s ev ev.f0 = { s with st := 4 } := by rw [e]; simp [thenS]
      rw [hS] at hT ⊢
      apply hT
      · simp [chk, e]
      · simp [stp, e, hop, hs]
      · simpa [stp, e] using hpd
      · intro _; simpa [stp, e] using hnw (.inl hs)
      · simp only [stp, e, Bnd]; exact ⟨b1, b2, b3, b4⟩
      · exact hpos
      · simp; omega
      · intro _; rw [e]; decide
    · have hs : s.st = 4 := by simpa [inK, e] using hin
      have hd := hsn (.inr (.inl hs))
      have hn := hnw (.inr hs)
      rw [if_pos (.inr hs)] at hmost
      have hS : thenS t s ev ev.f0 = { s with paid := s.paid ++ [⟨s.dd, s.da⟩], rp := false, st := 5 } := by rw [e]; simp [thenS]
      rw [hS] at hT ⊢
      have hsum : sumD (s.paid ++ [⟨s.dd, s.da⟩]) = sumD s.paid + s.da := by rw [sumD_append]; simp [sumD]
      apply hT
      · simp [chk, e]
      · simp [stp, e]
      · simp only [stp, e]; rw [hsum]; simp; omega
      · intro h; simp at h
      · simp [stp, e, Bnd]; omega
      · show 0 ≤ sumD (s.paid ++ [⟨s.dd, s.da⟩]); omega
      · show sumD (s.paid ++ [⟨s.dd, s.da⟩]) + _ ≤ _; simp; omega
      · intro _; rw [e]; decide
    · have hs : s.st = 5 := by simpa [inK, e] using hin
      have hop2 : op = true := by rw [hop, hs]; rfl
      rw [if_neg (by omega)] at hmost
      by_cases hp : ev.f1 = t.app
      · have hS : thenS t s ev ev.f0 = { s with st := 6 } := by rw [e]; simp [thenS, hp]
        rw [hS] at hT ⊢
        apply hT
        · simp [chk, e, hop2]
        · simp [stp, e, hp]
        · simpa [stp, e, hp] using hpd
        · intro h; simp at h
        · simp [stp, e, hp, Bnd]; omega
        · exact hpos
        · simp; omega
        · intro _; rw [e]; decide
      · have hS : thenS t s ev ev.f0 = { s with rp := true } := by rw [e]; simp [thenS, hp]
        rw [hS] at hT ⊢
        apply hT
        · simp [chk, e, hop2]
        · simp [stp, e, hp, hop2, hs]
        · simpa [stp, e, hp] using hpd
        · intro h; simp [hs] at h
        · simp [stp, e, hp, Bnd]; omega
        · exact hpos
        · simp [hs]; omega
        · intro _; rw [e]; decide
    · have hs : s.st = 0 ∨ s.st = 1 ∨ s.st = 3 ∨ s.st = 6 := by simpa [inK, e] using hin
      have hp : ¬ ev.f2 ≤ t.exp := by
        intro hp
        simp [thenR, e, hp] at hth
      have hS : thenS t s ev ev.f0 = { s with st := 7 } := by rw [e]; simp [thenS, hp]
      rw [if_neg (by omega)] at hmost
      rw [hS] at hT ⊢
      have hop2 : op = false := by rw [hop]; simp; omega
      apply hT
      · simp [chk, e, hop2]; omega
      · simp [stp, e, hop2]
      · simpa [stp, e] using hpd
      · intro h; simp at h
      · simp [stp, e, Bnd]; omega
      · exact hpos
      · simp; omega
      · intro h; simp at h
theorem run_told (t : Tm) (hb : boundsB t = true) (l : List S40) : Told t (runS t l) := by
  have key : ∀ (l : List S40) (s : LS), Told t s → Sane t s → Told t (l.foldl (doS t) s) := by
    intro l
    induction l with
    | nil => intro s h _; exact h
    | cons x l ih => intro s h h2; exact ih _ (told_step hb h h2 x) (sane_step h2 x)
  exact key l newS (told_new t hb) (by intro h; simp [newS] at h)
end Go.Proofs.Ytcefdhlmpgdajaa
