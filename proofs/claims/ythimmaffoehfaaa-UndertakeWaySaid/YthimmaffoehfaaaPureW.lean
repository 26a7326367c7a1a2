/- The plain law of the way of a life: each step is taken, at its end nobody owes. Conditions: the credit may live, the days go on. -/
import Derived.Test.YthimmaffoehfaaaPureU
set_option linter.unusedVariables false
set_option linter.unusedSimpArgs false
set_option linter.unusedSectionVars false
set_option linter.unnecessarySimpa false
namespace Go.Proofs.Ythimmaffoehfaaa
open Go.RowKit Go.Proofs.YthimmaffoehfaaaW.PrintWords Go.Proofs.YthimmaffoehfaaaW.PrintLast Go.Proofs.YthimmaffoehfaaaW.PrintMore
open Q

/-- A row of events that leads to s, and at which nothing is refused. -/
structure Way (t : Tm) (l : List S40) (s : LS) : Prop where
  run : runS t l = s
  ok : ∀ i e, l[i]? = some e → doR t (runS t (l.take i)) e = 0
  hist : s.hist = l
theorem Way.eq {t : Tm} {l l' : List S40} {s : LS} (h : Way t l s) (e : l = l') : Way t l' s := by subst e; exact h
theorem way_nil (t : Tm) : Way t [] newS := ⟨rfl, fun i e h => by simp at h, rfl⟩
theorem way_snoc {t : Tm} {l : List S40} {s : LS} (h : Way t l s) (e : S40) (hr : rightB e = true) (hl : lateB s e = false) (hs : standsB t s e.f0 = true) (hb : e.f1 = byB t s e.f0) (ht : thenR t s e e.f0 = 0) :
    Way t (l ++ [e]) { thenS t s e e.f0 with hist := l ++ [e] } := by
  have h0 : doR t s e = 0 := by
    unfold doR
    rw [if_neg (by simp [hr]), if_neg (by simp [hl]), if_neg (by simp [hs]), if_pos hb, ht]
  refine ⟨?_, fun i x hx => ?_, rfl⟩
  · rw [runS_snoc, h.run, doS, if_pos h0, h.hist]
  · by_cases hi : i < l.length
    · rw [List.take_append_of_le_length (by omega)]
      rw [List.getElem?_append_left hi] at hx
      exact h.ok i x hx
    · have hlt := (List.getElem?_eq_some_iff.1 hx).1
      have hi2 : i = l.length := by simp at hlt; omega
      subst hi2
      have hxe : x = e := by
        rw [List.getElem?_append_right (Nat.le_refl _)] at hx
        simpa using hx.symm
      rw [hxe, List.take_left, h.run]
      exact h0
def bankT (t : Tm) : ByteArray := if t.cnf.toList = [] then t.iss else t.cnf
def confT (t : Tm) : Bool := !decide (t.cnf.toList = [])
def wayL (t : Tm) (a d0 d1 d2 d3 d4 d5 : Int) (r : Bool) : List S40 :=
  ((((([⟨0, t.iss, d0, 0⟩] ++ (if confT t = true then [⟨1, t.cnf, d1, 0⟩] else [])) ++ [⟨2, t.ben, d2, a⟩]) ++ (if r = true then [⟨3, bankT t, d2, 0⟩, ⟨2, t.ben, d2, a⟩] else [])) ++ [⟨4, bankT t, d3, 0⟩, ⟨5, bankT t, d4, 0⟩]) ++ (if confT t = true then [⟨6, t.iss, d5, 0⟩] else [])) ++ [⟨6, t.app, d5, 0⟩]
theorem right_ev {k d : Int} {p : ByteArray} (hk : 0 ≤ k ∧ k ≤ 7 ∧ k ≠ 2) (hn : nameB p = true) (h0 : 0 ≤ d) (h1 : d ≤ 1048576) : rightB ⟨k, p, d, 0⟩ = true := by
  unfold rightB
  have : (k == 2) = false := by simpa using hk.2.2
  simp [this, hn, h0, h1, hk.1, hk.2.1]
theorem right_draw {d a : Int} {p : ByteArray} (hn : nameB p = true) (h0 : 0 ≤ d) (h1 : d ≤ 1048576) (h2 : 1 ≤ a) (h3 : a ≤ 1099511627776) : rightB ⟨2, p, d, a⟩ = true := by
  unfold rightB
  simp [hn, h0, h1, h2, h3]
theorem may_names {t : Tm} (h : mayB t = true) : nameB t.iss = true ∧ nameB t.app = true ∧ nameB t.ben = true ∧ (t.cnf.toList = [] ∨ nameB t.cnf = true) := by
  rw [rmay_eq] at h
  unfold rmayB at h
  simp only [Bool.and_eq_true, Bool.or_eq_true, decide_eq_true_eq] at h
  obtain ⟨⟨⟨⟨⟨⟨n1, n2⟩, n3⟩, _⟩, _⟩, _⟩, hc, _⟩ := h
  exact ⟨n1, n2, n3, hc.imp id fun h => h.1.1.1⟩
/-- What the law asks ahead of its way. -/
structure Asked (t : Tm) (a d0 d1 d2 d3 d4 d5 : Int) : Prop where
  may : mayB t = true
  a1 : 1 ≤ a
  am : a ≤ mostI t
  ax : a ≤ 1099511627776
  al : t.prt = false → leastI t ≤ a
  z : 0 ≤ d0
  le1 : d0 ≤ d1
  le2 : d1 ≤ d2
  le3 : d2 ≤ d3
  le4 : d3 ≤ d4
  le5 : d4 ≤ d5
  ex : d2 ≤ t.exp
  mx : d5 ≤ 1048576
theorem shown_ok {t : Tm} {a d0 d1 d2 d3 d4 d5 : Int} (h : Asked t a d0 d1 d2 d3 d4 d5) : mayE t [] ⟨d2, a⟩ = 0 := by
  obtain ⟨hm, a1, am, ax, al, z, l1, l2, l3, l4, l5, ex, mx⟩ := h
  have hb := (may_apart hm).2.2.2.2.2.2
  have e1 : look1 t [⟨d2, a⟩] = false := by
    simp [look1, hb, drawsB, withinB]
    omega
  have e2 : look2 t ⟨d2, a⟩ = false := by simp [look2]; omega
  have e3 : look3 t [] = false := by simp [look3]
  have e4 : look4 t [⟨d2, a⟩] = false := by simp [look4, sumD]; omega
  have e5 : look5 t ⟨d2, a⟩ = false := by
    unfold look5
    cases hp : t.prt with
    | true => simp
    | false => simpa using al hp
  unfold mayE
  simp [e1, e2, e3, e4, e5]
/-- A way that leads to (st, cf, rp) with nothing paid yet. -/
theorem way_all {t : Tm} {a d0 d1 d2 d3 d4 d5 : Int} (h : Asked t a d0 d1 d2 d3 d4 d5) (r : Bool) : ∃ s, Way t (wayL t a d0 d1 d2 d3 d4 d5 r) s ∧ s.st = 6 := by
  have hsh := shown_ok h
  obtain ⟨hm, a1, am, ax, al, z, l1, l2, l3, l4, l5, ex, mx⟩ := h
  obtain ⟨n1, n2, n3, n4⟩ := may_names hm
  obtain ⟨x1, x2, x3, x4, x5, x6, _⟩ := may_apart hm
  have v0 := right_ev (k := 0) (d := d0) (by decide) n1 z (by omega)
  have v2 := right_draw (d := d2) (a := a) n3 (by omega) (by omega) a1 ax
  have v6i := right_ev (k := 6) (d := d5) (by decide) n1 (by omega) (by omega)
  have v6a := right_ev (k := 6) (d := d5) (by decide) n2 (by omega) (by omega)
  have w1 := way_snoc (way_nil t) ⟨0, t.iss, d0, 0⟩ v0 rfl (by simp [standsB, newS, hasI, inK]) (by simp [byB]) (by simp [thenR])
  by_cases hc : t.cnf.toList = []
  · have hcB : confT t = false := by simp [confT, hc]
    have hbk : bankT t = t.iss := by simp [bankT, hc]
    have v3 := right_ev (k := 3) (d := d2) (by decide) n1 (by omega) (by omega)
    have v4 := right_ev (k := 4) (d := d3) (by decide) n1 (by omega) (by omega)
    have v5 := right_ev (k := 5) (d := d4) (by decide) n1 (by omega) (by omega)
    have w2 := way_snoc w1 ⟨2, t.ben, d2, a⟩ v2 (by simp [lateB]; omega) (by simp [standsB, thenS, newS, hasI, inK]) (by simp [byB]) (by simpa [thenR, thenS, newS, evD] using hsh)
    cases r with
    | false =>
      have w3 := way_snoc w2 ⟨4, t.iss, d3, 0⟩ v4 (by simp [lateB]; omega) (by simp [standsB, thenS, newS, hasI, inK, evD, hsh]) (by simp [byB, bankB, thenS, newS, evD, hsh]) (by simp [thenR])
      have w4 := way_snoc w3 ⟨5, t.iss, d4, 0⟩ v5 (by simp [lateB]; omega) (by simp [standsB, thenS, newS, hasI, inK, evD, hsh]) (by simp [byB, bankB, thenS, newS, evD, hsh]) (by simp [thenR])
      have w5 := way_snoc w4 ⟨6, t.app, d5, 0⟩ v6a (by simp [lateB]; omega) (by simp [standsB, thenS, newS, hasI, inK, evD, hsh]) (by simp [byB, repB, thenS, newS, evD, hsh]) (by simp [thenR])
      exact ⟨_, w5.eq (by simp [wayL, hcB, hbk]), by simp [thenS]⟩
    | true =>
      have u3 := way_snoc w2 ⟨3, t.iss, d2, 0⟩ v3 (by simp [lateB]) (by simp [standsB, thenS, newS, hasI, inK, evD, hsh]) (by simp [byB, bankB, thenS, newS, evD, hsh]) (by simp [thenR])
      have u4 := way_snoc u3 ⟨2, t.ben, d2, a⟩ v2 (by simp [lateB]) (by simp [standsB, thenS, newS, hasI, inK, evD, hsh]) (by simp [byB]) (by simpa [thenR, thenS, newS, evD, hsh] using hsh)
      have w3 := way_snoc u4 ⟨4, t.iss, d3, 0⟩ v4 (by simp [lateB]; omega) (by simp [standsB, thenS, newS, hasI, inK, evD, hsh]) (by simp [byB, bankB, thenS, newS, evD, hsh]) (by simp [thenR])
      have w4 := way_snoc w3 ⟨5, t.iss, d4, 0⟩ v5 (by simp [lateB]; omega) (by simp [standsB, thenS, newS, hasI, inK, evD, hsh]) (by simp [byB, bankB, thenS, newS, evD, hsh]) (by simp [thenR])
      have w5 := way_snoc w4 ⟨6, t.app, d5, 0⟩ v6a (by simp [lateB]; omega) (by simp [standsB, thenS, newS, hasI, inK, evD, hsh]) (by simp [byB, repB, thenS, newS, evD, hsh]) (by simp [thenR])
      exact ⟨_, w5.eq (by simp [wayL, hcB, hbk]), by simp [thenS]⟩
  · have hcB : confT t = true := by simp [confT, hc]
    have hcE : t.cnf.toList.isEmpty = false := by simpa using hc
    have hn := n4.resolve_left hc
    have hbk : bankT t = t.cnf := by simp [bankT, hc]
    have v1 := right_ev (k := 1) (d := d1) (by decide) hn (by omega) (by omega)
    have w1 := way_snoc w1 ⟨1, t.cnf, d1, 0⟩ v1 (by simp [lateB]; omega) (by simp [standsB, thenS, newS, hasI, inK, hcE]) (by simp [byB]) (by simp [thenR])
    have v3 := right_ev (k := 3) (d := d2) (by decide) hn (by omega) (by omega)
    have v4 := right_ev (k := 4) (d := d3) (by decide) hn (by omega) (by omega)
    have v5 := right_ev (k := 5) (d := d4) (by decide) hn (by omega) (by omega)
    have w2 := way_snoc w1 ⟨2, t.ben, d2, a⟩ v2 (by simp [lateB]; omega) (by simp [standsB, thenS, newS, hasI, inK]) (by simp [byB]) (by simpa [thenR, thenS, newS, evD] using hsh)
    cases r with
    | false =>
      have w3 := way_snoc w2 ⟨4, t.cnf, d3, 0⟩ v4 (by simp [lateB]; omega) (by simp [standsB, thenS, newS, hasI, inK, evD, hsh]) (by simp [byB, bankB, thenS, newS, evD, hsh]) (by simp [thenR])
      have w4 := way_snoc w3 ⟨5, t.cnf, d4, 0⟩ v5 (by simp [lateB]; omega) (by simp [standsB, thenS, newS, hasI, inK, evD, hsh]) (by simp [byB, bankB, thenS, newS, evD, hsh]) (by simp [thenR])
      have w4 := way_snoc w4 ⟨6, t.iss, d5, 0⟩ v6i (by simp [lateB]; omega) (by simp [standsB, thenS, newS, hasI, inK, evD, hsh]) (by simp [byB, repB, thenS, newS, evD, hsh]) (by simp [thenR])
      have w5 := way_snoc w4 ⟨6, t.app, d5, 0⟩ v6a (by simp [lateB]) (by simp [standsB, thenS, newS, hasI, inK, evD, hsh, x1]) (by simp [byB, repB, thenS, newS, evD, hsh, x1]) (by simp [thenR])
      exact ⟨_, w5.eq (by simp [wayL, hcB, hbk]), by simp [thenS]⟩
    | true =>
      have u3 := way_snoc w2 ⟨3, t.cnf, d2, 0⟩ v3 (by simp [lateB]) (by simp [standsB, thenS, newS, hasI, inK, evD, hsh]) (by simp [byB, bankB, thenS, newS, evD, hsh]) (by simp [thenR])
      have u4 := way_snoc u3 ⟨2, t.ben, d2, a⟩ v2 (by simp [lateB]) (by simp [standsB, thenS, newS, hasI, inK, evD, hsh]) (by simp [byB]) (by simpa [thenR, thenS, newS, evD, hsh] using hsh)
      have w3 := way_snoc u4 ⟨4, t.cnf, d3, 0⟩ v4 (by simp [lateB]; omega) (by simp [standsB, thenS, newS, hasI, inK, evD, hsh]) (by simp [byB, bankB, thenS, newS, evD, hsh]) (by simp [thenR])
      have w4 := way_snoc w3 ⟨5, t.cnf, d4, 0⟩ v5 (by simp [lateB]; omega) (by simp [standsB, thenS, newS, hasI, inK, evD, hsh]) (by simp [byB, bankB, thenS, newS, evD, hsh]) (by simp [thenR])
      have w4 := way_snoc w4 ⟨6, t.iss, d5, 0⟩ v6i (by simp [lateB]; omega) (by simp [standsB, thenS, newS, hasI, inK, evD, hsh]) (by simp [byB, repB, thenS, newS, evD, hsh]) (by simp [thenR])
      have w5 := way_snoc w4 ⟨6, t.app, d5, 0⟩ v6a (by simp [lateB]) (by simp [standsB, thenS, newS, hasI, inK, evD, hsh, x1]) (by simp [byB, repB, thenS, newS, evD, hsh, x1]) (by simp [thenR])
      exact ⟨_, w5.eq (by simp [wayL, hcB, hbk]), by simp [thenS]⟩
end Go.Proofs.Ythimmaffoehfaaa
