/- The law UndertakeWay, walked: it tells true. Conditions: texts as a machine can hold. -/
import Derived.Test.YthimmaffoehfaaaWalkOwes
import Derived.Test.YthimmaffoehfaaaPureW
import Derived.Test.YthimmaffoehfaaaSame
import Derived.IntWalk
import Derived.Deep.RegionHeld3
import Derived.Deep.DeepCutAuto
import Derived.Deep.CutRange
set_option linter.unusedVariables false
set_option linter.unusedSimpArgs false
set_option linter.unusedSectionVars false
namespace Go.Proofs.Ythimmaffoehfaaa
open Go.RowKit Go.Proofs.YthimmaffoehfaaaW.PrintWords Go.Proofs.YthimmaffoehfaaaW.PrintLast Go.Proofs.YthimmaffoehfaaaW.PrintMore
open Q

/-- The most of any terms, as the document's function reckons it. -/
def mostW (t : Tm) : Int := wrap64 (Int.tdiv (wrap64 (t.sum * (wrap64 (1000 + t.abv)))) 1000)
def leastW (t : Tm) : Int := wrap64 (Int.tdiv (wrap64 ((wrap64 (t.sum * (wrap64 (1000 - t.blw)))) + 999)) 1000)
theorem rmostW_any (t : Tm) (w : World) : Calls Try.prog 15 #[crV t] w fun e w' => e = .returned (.int .i64 (mostW t)) ∧ Below w.heap.size w w' :=
  (supercargoref30_Most.calls noT t.app t.ben t.iss t.cnf noT noT noT t.sum t.abv t.blw 0 t.exp 0 0 t.prt false none 0 [] (mostW t) w (nil143 w) (by simp) rfl).mono fun e w' h => h
theorem rleastW_any (t : Tm) (w : World) : Calls Try.prog 18 #[crV t] w fun e w' => e = .returned (.int .i64 (leastW t)) ∧ Below w.heap.size w w' :=
  (supercargoref30_Least.calls noT t.app t.ben t.iss t.cnf noT noT noT t.sum t.abv t.blw 0 t.exp 0 0 t.prt false none 0 [] (leastW t) w (nil143 w) (by simp) rfl).mono fun e w' h => h
theorem mostW_eq {t : Tm} (hb : boundsB t = true) : mostW t = mostI t := by
  obtain ⟨q1, q2, q3, q4, _⟩ := bounds_facts hb
  obtain ⟨m1, m2⟩ := most_facts hb
  unfold mostW mostI
  have e1 : wrap64 (1000 + t.abv) = 1000 + t.abv := by unfold wrap64; omega
  rw [e1]
  have e2 : wrap64 (t.sum * (1000 + t.abv)) = t.sum * (1000 + t.abv) := by unfold wrap64; omega
  rw [e2, Int.tdiv_eq_ediv_of_nonneg (by omega)]
  have e3 : wrap64 (t.sum * (1000 + t.abv) / 1000) = t.sum * (1000 + t.abv) / 1000 := by unfold wrap64; omega
  rw [e3]
theorem leastW_eq {t : Tm} (hb : boundsB t = true) : leastW t = leastI t := by
  obtain ⟨q1, q2, _, _, q5, q6, _⟩ := bounds_facts hb
  obtain ⟨m1, m2⟩ := least_facts hb
  unfold leastW leastI
  have e1 : wrap64 (1000 - t.blw) = 1000 - t.blw := by unfold wrap64; omega
  rw [e1]
  have e2 : wrap64 (t.sum * (1000 - t.blw)) = t.sum * (1000 - t.blw) := by unfold wrap64; omega
  rw [e2]
  have e3 : wrap64 (t.sum * (1000 - t.blw) + 999) = t.sum * (1000 - t.blw) + 1000 - 1 := by unfold wrap64; omega
  rw [e3, Int.tdiv_eq_ediv_of_nonneg (by omega)]
  have e4 : wrap64 ((t.sum * (1000 - t.blw) + 1000 - 1) / 1000) = (t.sum * (1000 - t.blw) + 1000 - 1) / 1000 := by unfold wrap64; omega
  rw [e4]

/-- A block that holds these events reads as a row of them. -/
def evCs (e : S40) : List Value := [.int .i64 e.f0, .string e.f1, .int .i64 e.f2, .int .i64 e.f3]
theorem reps_evs (W : World) (base : Nat) (ok : Nat → Prop) (ys : List S40) : Reps (k40.M W base ok) k40.sz ys (ys.flatMap evCs) := by
  induction ys with
  | nil => exact Reps.none _ _
  | cons x ys ih => exact Reps.front (k40_mkM _ _ _ x) rfl ih rfl
theorem heap_alloc_at (w : World) (o : Obj) {n : Nat} (hn : w.heap.size = n) : (w.alloc o).heap[n]? = some o := by rw [← hn, heap_alloc_new]
/-- What stands behind an append to a row that lay before the box was made. -/
theorem box_kept {wc w9 : World} {base : Nat} {v : Value} {xs : List S40} {row : Option Nat} (o o2 : Obj) (hO : Kd.R k40 40 wc base (fun _ => True) v xs) (hg : ((wc.alloc o).alloc o2).grownBy w9 row) (hr : row = v.ownBlock) : w9.heap[wc.heap.size]? = some o := by
  refine (hg.block _ (by simp; omega) ?_).trans ?_
  · rw [hr]
    intro e
    obtain ⟨inner, ho⟩ := Kd.R_own hO
    have := own_lt ho _ e.symm
    omega
  · have h2 : ((wc.alloc o).alloc o2).heap[wc.heap.size]? = (wc.alloc o).heap[wc.heap.size]? := ((Below.refl (wc.heap.size + 1) (wc.alloc o)).alloc (by simp) o2).block _ (by omega)
    rw [h2, heap_alloc_new]
theorem evs_in {w0 W : World} {b : Nat} {ys : List S40} (h : W.heap[b]? = some (.cells (ys.flatMap evCs).toArray 40)) (hl : ys.length ≤ 100) : ReadsRow (k40.K w0) k40.sz W (some ⟨b, 0, none⟩) ys.length ys := by
  refine ⟨rfl, by omega, fun _ => ⟨_, rfl, fun j p hj => ⟨_, rfl, k40_mk w0 p, fun i u hu => ?_⟩⟩⟩
  have e : (⟨b, 0, none⟩ : Addr).add (j * k40.sz + i) = ⟨b, j * 4 + i, none⟩ := by rw [add_plain, show k40.sz = 4 from rfl]; try simp only [Nat.zero_add]
  rw [e]
  have hlen : ∀ l : List S40, (l.flatMap evCs).length = l.length * 4 := by
    intro l
    induction l with
    | nil => rfl
    | cons x l ih => rw [List.flatMap_cons, List.length_append, ih]; simp [evCs]; omega
  have key : ∀ (l : List S40) (j : Nat) (p : S40), l[j]? = some p → ∀ (i : Nat) u, (evCs p)[i]? = some u → (l.flatMap evCs)[j * 4 + i]? = some u := by
    intro l
    induction l with
    | nil => intro j p hj; simp at hj
    | cons x l ih =>
      intro j p hj i u hu
      have hi : i < 4 := (List.getElem?_eq_some_iff.1 hu).1
      cases j with
      | zero =>
        simp at hj
        subst hj
        rw [List.flatMap_cons, List.getElem?_append_left (by simp [evCs]; omega), Nat.zero_mul, Nat.zero_add]
        exact hu
      | succ j =>
        rw [List.flatMap_cons, List.getElem?_append_right (by simp [evCs]; omega)]
        have := ih j p (by simpa using hj) i u hu
        have e2 : (j + 1) * 4 + i - (evCs x).length = j * 4 + i := by simp [evCs]; omega
        rw [e2]
        exact this
  simp only [World.cell?, h]
  have := key ys j p hj i u hu
  simpa using this

def dyL (d0 d1 d2 d3 d4 d5 : Int) : List Int := [d0, d1, d2, d3, d4, d5]
abbrev dyO (d0 d1 d2 d3 d4 d5 : Int) : Obj := .cells #[.int .i64 d0, .int .i64 d1, .int .i64 d2, .int .i64 d3, .int .i64 d4, .int .i64 d5] 48
/-- Behind the law's own two boxes: the terms, the days. -/
def Past2 (w : World) (t : Tm) (D : Obj) (W : World) : Prop := Below (w.heap.size + 2) ((w.alloc (teO t)).alloc D) W
section
variable {w W W2 : World} {t : Tm} {D : Obj}
theorem Past2.past (h : Past2 w t D W) : Past w t W := ((Below.refl (w.heap.size + 1) (w.alloc (teO t))).alloc (by simp) D).trans (Below.mono h (by omega))
theorem Past2.fin (h : Past2 w t D W) : Below w.heap.size w W := h.past.fin
theorem Past2.te (h : Past2 w t D W) : W.heap[w.heap.size]? = some (teO t) := h.past.te
theorem Past2.dy (h : Past2 w t D W) : W.heap[w.heap.size + 1]? = some D := by
  have e := heap_alloc_new (w.alloc (teO t)) D
  rw [World.size_alloc] at e
  exact (Below.block h _ (by omega)).trans e
theorem Past2.size (h : Past2 w t D W) : w.heap.size + 2 ≤ W.heap.size := by have := Below.size h; simpa using this
theorem Past2.step (h : Past2 w t D W) (hb : Below W.heap.size W W2) : Past2 w t D W2 := Below.trans h (hb.mono h.size)
theorem Past2.draw (h : Past2 w t D W) : Past2 w t D W.drew := below_drew h
theorem Past2.drawN (h : Past2 w t D W) (n : Nat) : Past2 w t D (W.drewN n) := pw_below_drewN h n
theorem Past2.start (w : World) (t : Tm) (D : Obj) : Past2 w t D ((w.alloc (teO t)).alloc D) := Below.refl _ _
theorem Past2.teq (h : Past2 w t D W) (h2 : Past2 w t D W2) (o : Nat) : W2.cell? ⟨w.heap.size, o, none⟩ = W.cell? ⟨w.heap.size, o, none⟩ := by simp only [World.cell?, h.te, h2.te]
end

theorem dy_cells {W : World} {b : Nat} {d0 d1 d2 d3 d4 d5 : Int} (h : W.heap[b]? = some (dyO d0 d1 d2 d3 d4 d5)) : W.cell? ⟨b, 0, none⟩ = some (.int .i64 d0) ∧ W.cell? ⟨b, 1, none⟩ = some (.int .i64 d1) ∧ W.cell? ⟨b, 2, none⟩ = some (.int .i64 d2) ∧ W.cell? ⟨b, 3, none⟩ = some (.int .i64 d3) ∧ W.cell? ⟨b, 4, none⟩ = some (.int .i64 d4) ∧ W.cell? ⟨b, 5, none⟩ = some (.int .i64 d5) := by
  refine ⟨?_, ?_, ?_, ?_, ?_, ?_⟩ <;> simp [World.cell?, h]
def dayI (d0 d1 d2 d3 d4 d5 : Int) (i : Nat) : Int := [d0, d1, d2, d3, d4, d5].getD i 0
theorem day_cell {w W : World} {t : Tm} {d0 d1 d2 d3 d4 d5 : Int} (h : Past2 w t (dyO d0 d1 d2 d3 d4 d5) W) {i : Nat} (hi : i < 6) : W.cell? ⟨w.heap.size + 1, i, none⟩ = some (.int .i64 (dayI d0 d1 d2 d3 d4 d5 i)) := by
  simp only [World.cell?, h.dy]
  match i, hi with
  | 0, _ => rfl
  | 1, _ => rfl
  | 2, _ => rfl
  | 3, _ => rfl
  | 4, _ => rfl
  | 5, _ => rfl
/-- Does the law ask nothing of these? -/
def askedNot (t : Tm) (a d0 d2 d5 : Int) : Bool := decide (a < 1) || decide (mostW t < a) || decide (1099511627776 < a) || (!t.prt && decide (a < leastW t)) || decide (d0 < 0) || decide (t.exp < d2) || decide (1048576 < d5)

def wayA (t : Tm) (d0 d1 : Int) : List S40 := [⟨0, t.iss, d0, 0⟩] ++ (if confT t = true then [⟨1, t.cnf, d1, 0⟩] else [])
theorem wayA_no {t : Tm} {d0 d1 : Int} (h : confT t = false) : wayA t d0 d1 = [⟨0, t.iss, d0, 0⟩] := by simp [wayA, h]
theorem wayA_yes {t : Tm} {d0 d1 : Int} (h : confT t = true) : wayA t d0 d1 = [⟨0, t.iss, d0, 0⟩] ++ [⟨1, t.cnf, d1, 0⟩] := by simp [wayA, h]
theorem wayA_len (t : Tm) (d0 d1 : Int) : (wayA t d0 d1).length ≤ 2 := by unfold wayA; split <;> simp
def wayB (t : Tm) (a d0 d1 d2 : Int) (r : Bool) : List S40 := (wayA t d0 d1 ++ [⟨2, t.ben, d2, a⟩]) ++ (if r = true then [⟨3, bankT t, d2, 0⟩, ⟨2, t.ben, d2, a⟩] else [])
theorem wayB_no {t : Tm} {a d0 d1 d2 : Int} : wayB t a d0 d1 d2 false = wayA t d0 d1 ++ [⟨2, t.ben, d2, a⟩] := by simp [wayB]
theorem wayB_yes {t : Tm} {a d0 d1 d2 : Int} : wayB t a d0 d1 d2 true = (wayA t d0 d1 ++ [⟨2, t.ben, d2, a⟩]) ++ [⟨3, bankT t, d2, 0⟩, ⟨2, t.ben, d2, a⟩] := by simp [wayB]
theorem wayB_len (t : Tm) (a d0 d1 d2 : Int) (r : Bool) : (wayB t a d0 d1 d2 r).length ≤ 5 := by have := wayA_len t d0 d1; unfold wayB; split <;> simp <;> omega
def wayC (t : Tm) (a d0 d1 d2 d3 d4 d5 : Int) (r : Bool) : List S40 := (wayB t a d0 d1 d2 r ++ [⟨4, bankT t, d3, 0⟩, ⟨5, bankT t, d4, 0⟩]) ++ (if confT t = true then [⟨6, t.iss, d5, 0⟩] else [])
theorem wayC_no {t : Tm} {a d0 d1 d2 d3 d4 d5 : Int} {r : Bool} (h : confT t = false) : wayC t a d0 d1 d2 d3 d4 d5 r = wayB t a d0 d1 d2 r ++ [⟨4, bankT t, d3, 0⟩, ⟨5, bankT t, d4, 0⟩] := by simp [wayC, h]
theorem wayC_yes {t : Tm} {a d0 d1 d2 d3 d4 d5 : Int} {r : Bool} (h : confT t = true) : wayC t a d0 d1 d2 d3 d4 d5 r = (wayB t a d0 d1 d2 r ++ [⟨4, bankT t, d3, 0⟩, ⟨5, bankT t, d4, 0⟩]) ++ [⟨6, t.iss, d5, 0⟩] := by simp [wayC, h]
theorem wayC_len (t : Tm) (a d0 d1 d2 d3 d4 d5 : Int) (r : Bool) : (wayC t a d0 d1 d2 d3 d4 d5 r).length ≤ 8 := by have := wayB_len t a d0 d1 d2 r; unfold wayC; split <;> simp <;> omega
theorem wayC_all (t : Tm) (a d0 d1 d2 d3 d4 d5 : Int) (r : Bool) : wayC t a d0 d1 d2 d3 d4 d5 r ++ [⟨6, t.app, d5, 0⟩] = wayL t a d0 d1 d2 d3 d4 d5 r := rfl
theorem bank_no {t : Tm} (h : confT t = false) : bankT t = t.iss := by unfold confT at h; unfold bankT; rw [if_pos (by simpa using h)]
theorem bank_yes {t : Tm} (h : confT t = true) : bankT t = t.cnf := by unfold confT at h; unfold bankT; rw [if_neg (by simpa using h)]
theorem asked_of {t : Tm} {a d0 d1 d2 d3 d4 d5 : Int} (hm : mayB t = true) (h : askedNot t a d0 d2 d5 = false) (hc : ∀ j, j < 5 → dayI d0 d1 d2 d3 d4 d5 j ≤ dayI d0 d1 d2 d3 d4 d5 (j + 1)) : Asked t a d0 d1 d2 d3 d4 d5 := by
  have hb := (may_apart hm).2.2.2.2.2.2
  unfold askedNot at h
  rw [mostW_eq hb, leastW_eq hb] at h
  simp only [Bool.or_eq_false_iff, Bool.and_eq_false_iff, Bool.not_eq_false', decide_eq_false_iff_not] at h
  obtain ⟨⟨⟨⟨⟨⟨h1, h2⟩, h3⟩, h4⟩, h5⟩, h6⟩, h7⟩ := h
  have c0 := hc 0 (by omega)
  have c1 := hc 1 (by omega)
  have c2 := hc 2 (by omega)
  have c3 := hc 3 (by omega)
  have c4 := hc 4 (by omega)
  simp [dayI] at c0 c1 c2 c3 c4
  refine ⟨hm, by omega, by omega, by omega, fun hp => ?_, by omega, c0, c1, c2, c3, c4, by omega, by omega⟩
  rcases h4 with h4 | h4
  · rw [hp] at h4; cases h4
  · omega

/-- The life, the law's boxes and the row of events, at the head of a round. -/
structure WayAt (w : World) (t : Tm) (D : Obj) (B g : Nat) (w9 : World) (s : LS) (pv hv : Value) (wr : World) : Prop where
  life : LifeAt wr B g t s pv hv
  turn : Turns (fun k => k = g) w9 wr
  own : ∀ k, hv.ownBlock = some k → w9.heap.size ≤ k
  past : Past2 w t D wr
/-- What is known of the row of events ahead of the loop. -/
structure WayRow (w : World) (t : Tm) (D : Obj) (B g : Nat) (w9 : World) (L : List S40) (A : Option Addr) (c : Nat) (s : LS) : Prop where
  way : Way t L s
  s6 : s.st = 6
  start : WayAt w t D B g w9 newS (.slice none 0 0) (.slice none 0 0) w9
  keep : ∀ wr, Turns (fun k => k = g) w9 wr → Kd.C k40 wr A L.length L
  size : ∀ e ∈ L, e.f1.size ≤ 140737488351232
  len : L.length ≤ 9
  g2 : w.heap.size + 2 ≤ g
section
variable {w w9 wr : World} {t : Tm} {D : Obj} {B g : Nat} {L : List S40} {A : Option Addr} {c : Nat} {s s0 : LS} {pv hv : Value}
theorem WayRow.row (h : WayRow w t D B g w9 L A c s) (hi : WayAt w t D B g w9 s0 pv hv wr) : Kd.C k40 wr A L.length L := h.keep wr hi.turn
theorem WayRow.run (h : WayRow w t D B g w9 L A c s) : runS t L = s := h.way.run
theorem WayRow.hist (h : WayRow w t D B g w9 L A c s) : s.hist = L := h.way.hist
theorem WayRow.step (h : WayRow w t D B g w9 L A c s) {i : Nat} (hi : WayAt w t D B g w9 (runS t (L.take i)) pv hv wr) {ev : S40} (hg : L[i]? = some ev) :
    Calls Try.prog 13 #[.pointer (some ⟨g, 0, none⟩), evV ev] wr fun e W' => e = .returned (.int .i64 0) ∧ ∃ pv' hv', WayAt w t D B g w9 (runS t (L.take (i + 1))) pv' hv' W' := by
  obtain ⟨hl1, hl2⟩ := run_len t (L.take i)
  have hti : (L.take i).length ≤ L.length := List.length_take_le' _ _
  have hl := h.len
  refine (do_any hi.life (by omega) (by omega) ev (h.size _ (List.mem_of_getElem? hg))).mono ?_
  rintro e W' ⟨pv', hv', rfl, hL, hT, hat⟩
  have hturn : Turns (fun k => k = g) w9 W' := by
    refine ⟨hT.os.trans hi.turn.os, hT.tape.trans hi.turn.tape, hT.output.trans hi.turn.output, Nat.le_trans hi.turn.size hT.size, fun k hk hne => ?_⟩
    refine (hT.block k (Nat.lt_of_lt_of_le hk hi.turn.size) ?_).trans (hi.turn.block k hk hne)
    rintro (rfl | ho)
    · exact hne rfl
    · have := hi.own k ho; omega
  rw [h.way.ok i ev hg]
  refine ⟨rfl, pv', hv', ?_, hturn, ?_, ?_⟩
  · rw [List.take_add_one, hg]
    exact (runS_snoc t _ ev) ▸ hL
  · rcases hat with e | ⟨b, e, hb⟩
    · rw [e]; exact hi.own
    · intro k hk
      rw [e] at hk
      injection hk with hk
      have := hi.turn.size
      omega
  · exact Below.trans h.start.past (hturn.below h.start.past.size fun k hk he => by have := h.g2; omega)
end
theorem way_row {w w6 w8 w9 : World} {t : Tm} {D : Obj} {g : Nat} {a d0 d1 d2 d3 d4 d5 : Int} {r : Bool} {v : Value} (hA : Asked t a d0 d1 d2 d3 d4 d5) (hN : Named t)
    (hO : Kd.R k40 40 w9 w8.heap.size (fun _ => True) v (wayC t a d0 d1 d2 d3 d4 d5 r ++ [⟨6, t.app, d5, 0⟩])) (hB : Below w8.heap.size w8 w9) (hP : Past2 w t D w9) (hL : LifeAt w9 w6.heap.size g t newS (.slice none 0 0) (.slice none 0 0)) (h2 : w.heap.size + 2 ≤ g) (hg : g < w8.heap.size) :
    ∃ (L : List S40) (A : Option Addr) (c : Nat), v = .slice A L.length c ∧ L.length ≤ 9 ∧ L.length ≤ c ∧ ∃ s, WayRow w t D w6.heap.size g w9 L A c s := by
  rw [wayC_all] at hO
  have hlen : (wayL t a d0 d1 d2 d3 d4 d5 r).length ≤ 9 := by rw [← wayC_all]; have := wayC_len t a d0 d1 d2 d3 d4 d5 r; simp; omega
  have hsz : ∀ e ∈ wayL t a d0 d1 d2 d3 d4 d5 r, e.f1.size ≤ 140737488351232 := by
    have n1 := hN t.iss (by simp)
    have n2 := hN t.app (by simp)
    have n3 := hN t.ben (by simp)
    have n4 := hN t.cnf (by simp)
    have nb : (bankT t).size ≤ 140737488351232 := by unfold bankT; split <;> assumption
    intro e he
    unfold wayL at he
    cases r <;> cases hcf : confT t <;> simp [hcf] at he <;> rcases he with rfl | rfl | rfl | rfl | rfl | rfl | rfl | rfl | rfl <;> first | exact n1 | exact n2 | exact n3 | exact n4 | exact nb
  obtain ⟨s, hw, h6⟩ := way_all hA r
  generalize wayL t a d0 d1 d2 d3 d4 d5 r = L at hO hlen hsz hw
  obtain ⟨A, c, hv, hc, _⟩ := Kd.R_reads hO
  refine ⟨L, A, c, hv, hlen, hc, s, hw, h6, ⟨hL, Turns.refl _ _, fun k hk => by simp [Value.ownBlock] at hk, hP⟩, fun wr hT => ?_, hsz, hlen, h2⟩
  subst hv
  have hO2 := hist_keep (w' := wr) hO fun k hk => by
    obtain ⟨inner, ho⟩ := Kd.R_own hO
    exact hT.block k (own_lt ho k hk) (fun e => by have := own_base ho k hk; omega)
  exact (Kd.R_reads' hO2).2.2
theorem owes_none {w : World} {B g : Nat} {t : Tm} {s : LS} {pv hv : Value} (h : LifeAt w B g t s pv hv) (h6 : s.st = 6) (p : ByteArray) :
    Calls Try.prog 14 #[.pointer (some ⟨g, 0, none⟩), .string p] w fun e w' => e = .returned (.tuple #[.int .i64 0, .bool false]) ∧ w = w' := by
  have ho : owesB t s p = false := by unfold owesB; rw [h6]; rfl
  have := owes_any h p
  rw [ho] at this
  exact this

set_option maxRecDepth 100000 in
set_option maxHeartbeats 40000000 in
theorem way_walk (t : Tm) (a d0 d1 d2 d3 d4 d5 : Int) (r : Bool) (w : World) (hs : Named t) :
    Calls Try.prog 5 #[.agg (teCells t), .int .i64 a, .agg #[.int .i64 d0, .int .i64 d1, .int .i64 d2, .int .i64 d3, .int .i64 d4, .int .i64 d5], .bool r] w fun e w' => e = .returned (.bool true) ∧ Below w.heap.size w w' := by
  have HB0 := Aside0.mk (Past2.start w t (dyO d0 d1 d2 d3 d4 d5))
  have HNM := Aside0.mk hs
  clear hs
  go_enter Try.func5, Try.ntmps5
  go_wp2_with fail
  refine (awake_any _).mono ?_
  rintro e w1 ⟨rfl, hb1⟩
  have HB1 := Aside0.mk (HB0.out.step hb1)
  have HP := Aside0.mk (HB0.out.step hb1)
  have hsz1 := HB1.out.size
  obtain ⟨q0, q1, q2, q3, q4, q5, q6, q7, q8⟩ := te_cells HB1.out.te
  clear hb1
  go_upto_region 3 with (fail)
  go_cut [9, 10] from 27 to 32 (fun v9 v10 wx => v9 = .int .i64 (leastW t) ∧ v10 = .int .i64 (mostW t) ∧ Aside0 (Past2 w t (dyO d0 d1 d2 d3 d4 d5) wx))
  case first =>
    go_region_held3 (fun w' => ∀ o, w'.cell? ⟨w.heap.size, o, none⟩ = w1.cell? ⟨w.heap.size, o, none⟩) (first | assumption | (exact fun _ => rfl))
      (first
        | (go_at_call 11; refine (credit_any t _).mono ?_; rintro e wx ⟨rfl, hbx⟩; have HP := Aside0.mk (Past2.step (by first | exact HP.out | exact HP.out.draw) hbx); have hkeep := HB1.out.teq HP.out; clear hbx)
        | (go_at_call 18; refine (rleastW_any t _).mono ?_; rintro e wx ⟨rfl, hbx⟩; have HP := Aside0.mk (Past2.step (by first | exact HP.out | exact HP.out.draw) hbx); have hkeep := HB1.out.teq HP.out; clear hbx)
        | (go_at_call 15; refine (rmostW_any t _).mono ?_; rintro e wx ⟨rfl, hbx⟩; have HP := Aside0.mk (Past2.step (by first | exact HP.out | exact HP.out.draw) hbx); have hkeep := HB1.out.teq HP.out; clear hbx))
    all_goals
      go_wp2_with fail
      go_meet
      exact ⟨rfl, rfl, HP⟩
  case rest =>
    obtain ⟨rfl, rfl, HP⟩ := hcut
    clear HB1 hsz1 q0 q1 q2 q3 q4 q5 q6 q7 q8
    have HLO := Aside0.mk (long_any t)
    have HMY := Aside0.mk (fun W => rmay_any t W HNM.out)
    obtain ⟨u0, u1, u2, u3, u4, u5, u6, u7, u8⟩ := te_cells HP.out.te
    obtain ⟨y0, y1, y2, y3, y4, y5⟩ := dy_cells HP.out.dy
    cases hlo : longB t with
    | true =>
      rw [hlo] at HLO
      clear hlo
      go_wp2_with (go_at_call 8; refine (HLO.out _).mono ?_; rintro e w2 ⟨rfl, hb2⟩; have HB2 := Aside0.mk (HP.out.step hb2); clear hb2)
      go_ret
      exact ⟨rfl, HB2.out.fin⟩
    | false =>
      rw [hlo] at HLO
      clear hlo
      cases hmy : mayB t with
      | false =>
        rw [hmy] at HMY
        clear hmy
        go_wp2_with (first
          | (go_at_call 8; refine (HLO.out _).mono ?_; rintro e w2 ⟨rfl, hb2⟩; have HB2 := Aside0.mk (HP.out.step hb2); obtain ⟨s0, s1, s2, s3, s4, s5, s6, s7, s8⟩ := te_cells HB2.out.te; clear hb2)
          | (go_at_call 11; refine (credit_any t _).mono ?_; rintro e w4 ⟨rfl, hb4⟩; have HB4 := Aside0.mk (HB2.out.step hb4); clear hb4)
          | (go_at_call 10; refine (HMY.out _).mono ?_; rintro e w5 ⟨rfl, hb5⟩; have HB5 := Aside0.mk (HB4.out.step hb5); clear hb5))
        go_ret
        exact ⟨rfl, HB5.out.fin⟩
      | true =>
        rw [hmy] at HMY
        have HMT := Aside0.mk hmy
        clear hmy
        go_upto_region 4 with (fail)
        go_cut [80] from 33 to 80 (fun v80 wx => v80 = .bool (askedNot t a d0 d2 d5) ∧ Aside0 (Past2 w t (dyO d0 d1 d2 d3 d4 d5) wx))
        case first =>
          go_wp2_with (first
            | (go_at_call 8; refine (HLO.out _).mono ?_; rintro e w2 ⟨rfl, hb2⟩; have HB2 := Aside0.mk (HP.out.step hb2); obtain ⟨s0, s1, s2, s3, s4, s5, s6, s7, s8⟩ := te_cells HB2.out.te; clear hb2)
            | (go_at_call 11; refine (credit_any t _).mono ?_; rintro e w4 ⟨rfl, hb4⟩; have HB4 := Aside0.mk (HB2.out.step hb4); clear hb4)
            | (go_at_call 10; refine (HMY.out _).mono ?_; rintro e w5 ⟨rfl, hb5⟩; have HB5 := Aside0.mk (HB4.out.step hb5); obtain ⟨s0, s1, s2, s3, s4, s5, s6, s7, s8⟩ := te_cells HB5.out.te; obtain ⟨z0, z1, z2, z3, z4, z5⟩ := dy_cells HB5.out.dy; clear hb5))
          all_goals
            go_meet
            refine ⟨?_, HB5⟩
            first
              | (simp [askedNot, *]; done)
              | (simp [askedNot, *]; omega)
        case rest =>
          obtain ⟨rfl, HP⟩ := hcut
          clear u0 u1 u2 u3 u4 u5 u6 u7 u8 y0 y1 y2 y3 y4 y5 HLO HMY
          cases hask : askedNot t a d0 d2 d5 with
          | true =>
            clear hask
            go_wp2_with fail
            go_ret
            exact ⟨rfl, HP.out.fin⟩
          | false =>
            have HASK := Aside0.mk hask
            clear hask
            have HDY := Aside0.mk (fun (W : World) (h : Past2 w t (dyO d0 d1 d2 d3 d4 d5) W) (i : Nat) (hi : i < 6) => day_cell h hi)
            go_wp2_with fail
            go_loopg [11] 7 (fun kq v wr => ∃ m : Nat, v = .int .i64 ((m : Int) + 1) ∧ m ≤ 5 ∧ 5 < m + kq ∧ Aside0 (∀ j, j < m → dayI d0 d1 d2 d3 d4 d5 j ≤ dayI d0 d1 d2 d3 d4 d5 (j + 1)) ∧ Aside0 (Past2 w t (dyO d0 d1 d2 d3 d4 d5) wr))
            case atStart => exact ⟨0, rfl, by omega, by omega, ⟨fun j hj => absurd hj (by omega)⟩, HP⟩
            case round =>
              clear HP
              obtain ⟨m, rfl, hm, hk, HCH, HP⟩ := hrel
              by_cases hlt : m < 5
              · have hc0 := HDY.out _ HP.out m (by omega)
                have hc1 := HDY.out _ HP.out (m + 1) (by omega)
                obtain ⟨x, hx⟩ : ∃ x, x = dayI d0 d1 d2 d3 d4 d5 m := ⟨_, rfl⟩
                obtain ⟨y, hy⟩ : ∃ y, y = dayI d0 d1 d2 d3 d4 d5 (m + 1) := ⟨_, rfl⟩
                rw [← hx] at hc0
                rw [← hy] at hc1
                have HX := Aside0.mk hx
                have HY := Aside0.mk hy
                clear hx hy
                have hwr : IntKind.i64.wrap ((m : Int) + 1 - 1) = (m : Int) := by rw [IntWalk.i64_in _ (by omega)]; omega
                by_cases hlt2 : y < x
                · go_wp2_with fail
                  go_quiet (fail)
                  clear hwr
                  go_wp2_with fail
                  go_ret
                  exact ⟨rfl, (HP.out.drawN _).fin⟩
                · go_wp2_with fail
                  go_quiet (fail)
                  clear hwr
                  go_wp2_with fail
                  go_roundg (gk - 1)
                  case measure => omega
                  case rel =>
                    refine ⟨m + 1, by go_num, by omega, by omega, ⟨fun j hj => ?_⟩, ⟨HP.out.drawN _⟩⟩
                    rcases Nat.lt_or_ge j m with h | h
                    · exact HCH.out j h
                    · obtain rfl : j = m := by omega
                      rw [← HX.out, ← HY.out]
                      omega
              · obtain rfl : m = 5 := by omega
                have HA := Aside0.mk (asked_of HMT.out HASK.out HCH.out)
                clear HCH HASK HDY hlt hm hk
                obtain ⟨u0, u1, u2, u3, u4, u5, u6, u7, u8⟩ := te_cells HP.out.te
                go_wp2_with fail
                refine (credit_any t _).mono ?_
                rintro e w6 ⟨rfl, hb6⟩
                have HB6 := Aside0.mk (HP.out.step hb6)
                clear hb6 u0 u1 u2 u3 u4 u5 u6 u7 u8
                go_wp2_with fail
                refine (new_any t _ HNM.out HMT.out).mono ?_
                rintro e w7 ⟨g, rfl, hL7, hb7⟩
                have HB7 := Aside0.mk (HB6.out.step hb7)
                have HL7 := Aside0.mk hL7
                have hg7 := hL7.lt
                have HG2 : Aside0 (w.heap.size + 2 ≤ g) := ⟨Nat.le_trans HB6.out.size hL7.gB⟩
                clear hL7 hb7 HB6 HP
                obtain ⟨u0, u1, u2, u3, u4, u5, u6, u7, u8⟩ := te_cells HB7.out.te
                obtain ⟨y0, y1, y2, y3, y4, y5⟩ := dy_cells HB7.out.dy
                go_upto_region 14 with (fail)
                go_cut [14, 15] from 105 to 109 (fun v14 v15 wx => v14 = .string t.iss ∧ v15 = .bool (confT t) ∧ ∃ n, wx = w7.drewN n)
                case first =>
                  have hcf : (!(t.cnf.toList.isEmpty)) = confT t := by unfold confT; cases t.cnf.toList <;> rfl
                  go_quiet (fail)
                  go_wp2_with fail
                  go_meet
                  exact ⟨rfl, rfl, nq, rfl⟩
                case rest =>
                  obtain ⟨rfl, rfl, n8, rfl⟩ := hcut
                  have hb8 : Below w7.heap.size w7 (w7.drewN n8) := pw_below_drewN (Below.refl _ _) _
                  have HB8 := Aside0.mk (HB7.out.step hb8)
                  have HL8 := Aside0.mk (HL7.out.below hb8)
                  have hg8 := HL8.out.lt
                  have HBG := Aside0.mk HL8.out.gB
                  clear hb8 HB7 HL7 hg7 u0 u1 u2 u3 u4 u5 u6 u7 u8 y0 y1 y2 y3 y4 y5
                  generalize w7.drewN n8 = w8 at HB8 HL8 hg8 ⊢
                  obtain ⟨u0, u1, u2, u3, u4, u5, u6, u7, u8⟩ := te_cells HB8.out.te
                  obtain ⟨y0, y1, y2, y3, y4, y5⟩ := dy_cells HB8.out.dy
                  have hsz8 := HB8.out.size
                  go_upto_if 116 with ((with_reducible refine gate_dst (N := 115) rfl ?_); refine Kd.R_lit k40 (w0 := w8) w8.heap.size 40 ?hg (N := 115) ?hd (xs := [(⟨0, t.iss, d0, 0⟩ : S40)]) (inner := evCs ⟨0, t.iss, d0, 0⟩) (ok := fun _ => True) (okp := fun _ => True) ?hr ?hp (fun _ hk => hk) trivial (Below.refl _ _) (Nat.le_refl _) (by simp) ?_; (case hd => rfl); (case hg => rfl); (case hr => first | (go_simp; done) | (go_simp; rfl)); (case hp => exact reps_evs _ _ _ [_]); intro v0 w9 ho0 hb0 hg0 hn0; have HO := Aside0.mk ho0; have HB := Aside0.mk hb0; clear ho0 hb0 hg0 hn0)
                  have HLN : Aside0 ([(⟨0, t.iss, d0, 0⟩ : S40)].length ≤ 1) := ⟨by simp⟩
                  go_cut [14, 15, 16] from 116 to 125 (fun v14 v15 v16 wx => v14 = .string (bankT t) ∧ v15 = .bool (confT t) ∧ Aside0 (Kd.R k40 40 wx w8.heap.size (fun _ => True) v16 (wayA t d0 d1)) ∧ Aside0 (Below w8.heap.size w8 wx))
                  case first =>
                    obtain ⟨k0, k1, k2, k3, k4, k5, k6, k7, k8⟩ := te_cells (HB8.out.step HB.out).te
                    obtain ⟨l0, l1, l2, l3, l4, l5⟩ := dy_cells (HB8.out.step HB.out).dy
                    cases hcf : confT t with
                    | false =>
                      have HCF := Aside0.mk hcf
                      clear hcf
                      go_wp2_with fail
                      go_meet
                      exact ⟨by rw [bank_no HCF.out], by rw [HCF.out], ⟨by have := HO.out; rw [wayA_no HCF.out]; exact this⟩, HB⟩
                    | true =>
                      have HCF := Aside0.mk hcf
                      clear hcf
                      go_wp2_with ((with_reducible refine gate_builtin (b := .append) (xs := #[.tmp 119, .tmp 124]) rfl ?_); (at_builtin; refine Kd.R_append_rows k40 (Rr := k40.K w8) (w0 := w8) w8.heap.size rfl (.tmp 119) (.tmp 124) 24 40 (.agg #[(.int .i64 0), (.string ⟨#[]⟩), (.int .i64 0), (.int .i64 0)]) 40 rfl Try.underlying24 info40 rfl (by decide) (by omega) _ _ [(⟨1, t.cnf, d1, 0⟩ : S40)] _ 1 _ (fun _ => True) (fun _ => False) rfl rfl (Kd.R_below HO.out ?hO) ?hR ?hKM (fun _ hk => hk.elim) (fun _ _ => trivial) ?hB ?hS ?hl1 ?_; (case hO => (repeat (first | (with_reducible exact Below.refl _ _) | (with_reducible refine below_al ?_ _)))); (case hR => (refine evs_in (ys := [(⟨1, t.cnf, d1, 0⟩ : S40)]) (heap_alloc_at _ _ ?_) (by simp); simp)); (case hKM => (intro x cs hx; rw [k40_open hx]; exact k40_mkM _ _ _ x)); (case hB => (refine HB.out.trans (Below.mono ?_ HB.out.size); (repeat (first | (with_reducible exact Below.refl _ _) | (with_reducible refine below_al ?_ _))))); (case hS => (have h9 := HB.out.size; first | omega | (simp; omega))); (case hl1 => (have h9 := HLN.out; first | omega | (simp; done) | (simp; omega))); intro v9 w9 ho9 hb9 hg9 hat9; have HO := Aside0.mk ho9; have HB := Aside0.mk hb9; clear ho9 hb9 hg9 hat9))
                      go_meet
                      exact ⟨by rw [bank_yes HCF.out], by rw [HCF.out], ⟨by have := HO.out; rw [wayA_yes HCF.out]; exact this⟩, HB⟩
                  case rest => 
                    clear HO HB HLN
                    obtain ⟨rfl, rfl, HO, HB⟩ := hcut
                    have HLN : Aside0 ((wayA t d0 d1).length ≤ 2) := ⟨wayA_len t d0 d1⟩
                    obtain ⟨k0, k1, k2, k3, k4, k5, k6, k7, k8⟩ := te_cells (HB8.out.step HB.out).te
                    obtain ⟨l0, l1, l2, l3, l4, l5⟩ := dy_cells (HB8.out.step HB.out).dy
                    have HO0 := HO
                    go_upto_if 136 with ((with_reducible refine gate_builtin (b := .append) (xs := #[.tmp 132, .tmp 134]) rfl ?_); (at_builtin; refine Kd.R_append_rows k40 (Rr := k40.K w8) (w0 := w8) w8.heap.size rfl (.tmp 132) (.tmp 134) 24 40 (.agg #[(.int .i64 0), (.string ⟨#[]⟩), (.int .i64 0), (.int .i64 0)]) 40 rfl Try.underlying24 info40 rfl (by decide) (by omega) _ _ [(⟨2, t.ben, d2, a⟩ : S40)] _ 1 _ (fun _ => True) (fun _ => False) rfl rfl (Kd.R_below HO.out ?hO) ?hR ?hKM (fun _ hk => hk.elim) (fun _ _ => trivial) ?hB ?hS ?hl1 ?_; (case hO => (repeat (first | (with_reducible exact Below.refl _ _) | (with_reducible refine below_al ?_ _)))); (case hR => (refine evs_in (ys := [(⟨2, t.ben, d2, a⟩ : S40)]) (heap_alloc_at _ _ ?_) (by simp); simp)); (case hKM => (intro x cs hx; rw [k40_open hx]; exact k40_mkM _ _ _ x)); (case hB => (refine HB.out.trans (Below.mono ?_ HB.out.size); (repeat (first | (with_reducible exact Below.refl _ _) | (with_reducible refine below_al ?_ _))))); (case hS => (have h9 := HB.out.size; first | omega | (simp; omega))); (case hl1 => (have h9 := HLN.out; first | omega | (simp; done) | (simp; omega))); intro v9 w9 ho9 hb9 hg9 hat9; have HO := Aside0.mk ho9; have HB := Aside0.mk hb9; have HG := Aside0.mk hg9; clear ho9 hb9 hg9 hat9))
                    have HSH : Aside0 (w9.heap[wc.heap.size]? = some (evO ⟨2, t.ben, d2, a⟩)) := ⟨box_kept _ _ HO0.out HG.out rfl⟩
                    obtain ⟨z0, z1, z2, z3⟩ := ev_cells HSH.out
                    clear HO0 HG HSH HLN k0 k1 k2 k3 k4 k5 k6 k7 k8 l0 l1 l2 l3 l4 l5
                    have HLN : Aside0 ((wayA t d0 d1 ++ [(⟨2, t.ben, d2, a⟩ : S40)]).length ≤ 3) := ⟨by have := wayA_len t d0 d1; simp; omega⟩
                    go_cut [16] from 136 to 144 (fun v16 wx => Aside0 (Kd.R k40 40 wx w8.heap.size (fun _ => True) v16 (wayB t a d0 d1 d2 r)) ∧ Aside0 (Below w8.heap.size w8 wx))
                    case first =>
                      obtain ⟨l0, l1, l2, l3, l4, l5⟩ := dy_cells (HB8.out.step HB.out).dy
                      cases r with
                      | false =>
                        go_wp2_with fail
                        go_meet
                        exact ⟨⟨by have := HO.out; rw [wayB_no]; exact this⟩, HB⟩
                      | true =>
                        go_wp2_with ((with_reducible refine gate_builtin (b := .append) (xs := #[.tmp 137, .tmp 143]) rfl ?_); (at_builtin; refine Kd.R_append_rows k40 (Rr := k40.K w8) (w0 := w8) w8.heap.size rfl (.tmp 137) (.tmp 143) 24 40 (.agg #[(.int .i64 0), (.string ⟨#[]⟩), (.int .i64 0), (.int .i64 0)]) 40 rfl Try.underlying24 info40 rfl (by decide) (by omega) _ _ [(⟨3, bankT t, d2, 0⟩ : S40), (⟨2, t.ben, d2, a⟩ : S40)] _ 2 _ (fun _ => True) (fun _ => False) rfl rfl (Kd.R_below HO.out ?hO) ?hR ?hKM (fun _ hk => hk.elim) (fun _ _ => trivial) ?hB ?hS ?hl1 ?_; (case hO => (repeat (first | (with_reducible exact Below.refl _ _) | (with_reducible refine below_al ?_ _)))); (case hR => (refine evs_in (ys := [(⟨3, bankT t, d2, 0⟩ : S40), (⟨2, t.ben, d2, a⟩ : S40)]) (heap_alloc_at _ _ ?_) (by simp); simp)); (case hKM => (intro x cs hx; rw [k40_open hx]; exact k40_mkM _ _ _ x)); (case hB => (refine HB.out.trans (Below.mono ?_ HB.out.size); (repeat (first | (with_reducible exact Below.refl _ _) | (with_reducible refine below_al ?_ _))))); (case hS => (have h9 := HB.out.size; first | omega | (simp; omega))); (case hl1 => (have h9 := HLN.out; first | omega | (simp; done) | (simp; omega))); intro v9 w9 ho9 hb9 hg9 hat9; have HO := Aside0.mk ho9; have HB := Aside0.mk hb9; clear ho9 hb9 hg9 hat9))
                        go_meet
                        exact ⟨⟨by have := HO.out; rw [wayB_yes]; exact this⟩, HB⟩
                    case rest =>
                      clear HO HB HLN z0 z1 z2 z3
                      obtain ⟨HO, HB⟩ := hcut
                      have HLN : Aside0 ((wayB t a d0 d1 d2 r).length ≤ 5) := ⟨wayB_len t a d0 d1 d2 r⟩
                      obtain ⟨l0, l1, l2, l3, l4, l5⟩ := dy_cells (HB8.out.step HB.out).dy
                      go_upto_if 156 with ((with_reducible refine gate_builtin (b := .append) (xs := #[.tmp 145, .tmp 154]) rfl ?_); (at_builtin; refine Kd.R_append_rows k40 (Rr := k40.K w8) (w0 := w8) w8.heap.size rfl (.tmp 145) (.tmp 154) 24 40 (.agg #[(.int .i64 0), (.string ⟨#[]⟩), (.int .i64 0), (.int .i64 0)]) 40 rfl Try.underlying24 info40 rfl (by decide) (by omega) _ _ [(⟨4, bankT t, d3, 0⟩ : S40), (⟨5, bankT t, d4, 0⟩ : S40)] _ 2 _ (fun _ => True) (fun _ => False) rfl rfl (Kd.R_below HO.out ?hO) ?hR ?hKM (fun _ hk => hk.elim) (fun _ _ => trivial) ?hB ?hS ?hl1 ?_; (case hO => (repeat (first | (with_reducible exact Below.refl _ _) | (with_reducible refine below_al ?_ _)))); (case hR => (refine evs_in (ys := [(⟨4, bankT t, d3, 0⟩ : S40), (⟨5, bankT t, d4, 0⟩ : S40)]) (heap_alloc_at _ _ ?_) (by simp); simp)); (case hKM => (intro x cs hx; rw [k40_open hx]; exact k40_mkM _ _ _ x)); (case hB => (refine HB.out.trans (Below.mono ?_ HB.out.size); (repeat (first | (with_reducible exact Below.refl _ _) | (with_reducible refine below_al ?_ _))))); (case hS => (have h9 := HB.out.size; first | omega | (simp; omega))); (case hl1 => (have h9 := HLN.out; first | omega | (simp; done) | (simp; omega))); intro v9 w9 ho9 hb9 hg9 hat9; have HO := Aside0.mk ho9; have HB := Aside0.mk hb9; clear ho9 hb9 hg9 hat9))
                      clear HLN l0 l1 l2 l3 l4 l5
                      have HLN : Aside0 ((wayB t a d0 d1 d2 r ++ [(⟨4, bankT t, d3, 0⟩ : S40), ⟨5, bankT t, d4, 0⟩]).length ≤ 7) := ⟨by have := wayB_len t a d0 d1 d2 r; simp; omega⟩
                      go_cut [15, 16] from 156 to 164 (fun v15 v16 wx => v15 = .bool (confT t) ∧ Aside0 (Kd.R k40 40 wx w8.heap.size (fun _ => True) v16 (wayC t a d0 d1 d2 d3 d4 d5 r)) ∧ Aside0 (Below w8.heap.size w8 wx))
                      case first =>
                        obtain ⟨k0, k1, k2, k3, k4, k5, k6, k7, k8⟩ := te_cells (HB8.out.step HB.out).te
                        obtain ⟨l0, l1, l2, l3, l4, l5⟩ := dy_cells (HB8.out.step HB.out).dy
                        cases hcf : confT t with
                        | false =>
                          have HCF := Aside0.mk hcf
                          clear hcf
                          go_wp2_with fail
                          go_meet
                          exact ⟨by rw [HCF.out], ⟨by have := HO.out; rw [wayC_no HCF.out]; exact this⟩, HB⟩
                        | true =>
                          have HCF := Aside0.mk hcf
                          clear hcf
                          go_wp2_with ((with_reducible refine gate_builtin (b := .append) (xs := #[.tmp 157, .tmp 163]) rfl ?_); (at_builtin; refine Kd.R_append_rows k40 (Rr := k40.K w8) (w0 := w8) w8.heap.size rfl (.tmp 157) (.tmp 163) 24 40 (.agg #[(.int .i64 0), (.string ⟨#[]⟩), (.int .i64 0), (.int .i64 0)]) 40 rfl Try.underlying24 info40 rfl (by decide) (by omega) _ _ [(⟨6, t.iss, d5, 0⟩ : S40)] _ 1 _ (fun _ => True) (fun _ => False) rfl rfl (Kd.R_below HO.out ?hO) ?hR ?hKM (fun _ hk => hk.elim) (fun _ _ => trivial) ?hB ?hS ?hl1 ?_; (case hO => (repeat (first | (with_reducible exact Below.refl _ _) | (with_reducible refine below_al ?_ _)))); (case hR => (refine evs_in (ys := [(⟨6, t.iss, d5, 0⟩ : S40)]) (heap_alloc_at _ _ ?_) (by simp); simp)); (case hKM => (intro x cs hx; rw [k40_open hx]; exact k40_mkM _ _ _ x)); (case hB => (refine HB.out.trans (Below.mono ?_ HB.out.size); (repeat (first | (with_reducible exact Below.refl _ _) | (with_reducible refine below_al ?_ _))))); (case hS => (have h9 := HB.out.size; first | omega | (simp; omega))); (case hl1 => (have h9 := HLN.out; first | omega | (simp; done) | (simp; omega))); intro v9 w9 ho9 hb9 hg9 hat9; have HO := Aside0.mk ho9; have HB := Aside0.mk hb9; clear ho9 hb9 hg9 hat9))
                          go_meet
                          exact ⟨by rw [HCF.out], ⟨by have := HO.out; rw [wayC_yes HCF.out]; exact this⟩, HB⟩
                      case rest => 
                        clear HO HB HLN
                        obtain ⟨rfl, HO, HB⟩ := hcut
                        have HLN : Aside0 ((wayC t a d0 d1 d2 d3 d4 d5 r).length ≤ 8) := ⟨wayC_len t a d0 d1 d2 d3 d4 d5 r⟩
                        obtain ⟨k0, k1, k2, k3, k4, k5, k6, k7, k8⟩ := te_cells (HB8.out.step HB.out).te
                        obtain ⟨l0, l1, l2, l3, l4, l5⟩ := dy_cells (HB8.out.step HB.out).dy
                        go_wp2_with ((with_reducible refine gate_builtin (b := .append) (xs := #[.tmp 165, .tmp 171]) rfl ?_); (at_builtin; refine Kd.R_append_rows k40 (Rr := k40.K w8) (w0 := w8) w8.heap.size rfl (.tmp 165) (.tmp 171) 24 40 (.agg #[(.int .i64 0), (.string ⟨#[]⟩), (.int .i64 0), (.int .i64 0)]) 40 rfl Try.underlying24 info40 rfl (by decide) (by omega) _ _ [(⟨6, t.app, d5, 0⟩ : S40)] _ 1 _ (fun _ => True) (fun _ => False) rfl rfl (Kd.R_below HO.out ?hO) ?hR ?hKM (fun _ hk => hk.elim) (fun _ _ => trivial) ?hB ?hS ?hl1 ?_; (case hO => (repeat (first | (with_reducible exact Below.refl _ _) | (with_reducible refine below_al ?_ _)))); (case hR => (refine evs_in (ys := [(⟨6, t.app, d5, 0⟩ : S40)]) (heap_alloc_at _ _ ?_) (by simp); simp)); (case hKM => (intro x cs hx; rw [k40_open hx]; exact k40_mkM _ _ _ x)); (case hB => (refine HB.out.trans (Below.mono ?_ HB.out.size); (repeat (first | (with_reducible exact Below.refl _ _) | (with_reducible refine below_al ?_ _))))); (case hS => (have h9 := HB.out.size; first | omega | (simp; omega))); (case hl1 => (have h9 := HLN.out; first | omega | (simp; done) | (simp; omega))); intro v9 w9 ho9 hb9 hg9 hat9; have HO := Aside0.mk ho9; have HB := Aside0.mk hb9; clear ho9 hb9 hg9 hat9))
                        have HW := Aside0.mk (way_row HA.out HNM.out HO.out HB.out (HB8.out.step HB.out) (HL8.out.below HB.out) HG2.out hg8)
                        clear HO HB HLN k0 k1 k2 k3 k4 k5 k6 k7 k8 l0 l1 l2 l3 l4 l5 HA HNM HBG HB8 HL8 hg8 hsz8 u0 u1 u2 u3 u4 u5 u6 u7 u8 y0 y1 y2 y3 y4 y5 HB0 HP
                        obtain ⟨L, A9, c9, rfl, hl9, hc9, s, HS⟩ := HW.out
                        have HS := Aside0.mk HS
                        clear HW
                        have HS6 := Aside0.mk HS.out.s6
                        go_loopg [18] (L.length + 1) (fun kq v wr => ∃ i : Nat, v = .int .i64 i ∧ i ≤ L.length ∧ L.length < i + kq ∧ ∃ pv hv, Aside0 (WayAt w t (dyO d0 d1 d2 d3 d4 d5) w6.heap.size g w9 (runS t (L.take i)) pv hv wr))
                        case atStart => exact ⟨0, rfl, Nat.zero_le _, by omega, _, _, ⟨HS.out.start⟩⟩
                        case round =>
                          obtain ⟨i, rfl, hi, hk, pv, hv, HI⟩ := hrel
                          by_cases hlt : i < L.length
                          · obtain ⟨ad, rfl, y0, y1, y2, y3⟩ := at_T40 (HS.out.row HI.out) (i : Int) (by omega) (by omega)
                            rw [Int.toNat_natCast] at y0 y1 y2 y3
                            have hdr := rd_ev hlt
                            obtain ⟨ev, hev⟩ : ∃ ev, ev = rd_T40 L (i : Int) := ⟨_, rfl⟩
                            rw [← hev] at y0 y1 y2 y3 hdr
                            have hgt : L[i]? = some ev := by
                              have := congrArg List.head? hdr
                              simpa [List.head?_drop] using this
                            have HDO := Aside0.mk (HS.out.step HI.out hgt)
                            clear hev hdr hgt
                            have hic : i < c9 := by omega
                            go_wp2_with fail
                            refine HDO.out.mono ?_
                            rintro e w10 ⟨rfl, pv10, hv10, HI10⟩
                            have HI10 := Aside0.mk HI10
                            go_wp2_with fail
                            go_roundg (gk - 1)
                            case measure => omega
                            case rel => exact ⟨i + 1, rfl, by omega, by omega, _, _, HI10⟩
                          · obtain rfl : i = L.length := by omega
                            clear hlt hi hk
                            rw [List.take_length] at HI
                            have HR := Aside0.mk HS.out.run
                            have hst := HS6.out
                            rw [HR.out] at HI
                            have HST := Aside0.mk hst
                            clear hst
                            have HO1 := Aside0.mk (owes_none HI.out.life HST.out)
                            have HSTA := Aside0.mk (state_any HI.out.life)
                            rw [HST.out] at HSTA
                            have HHI := Aside0.mk (history_any HI.out.life (by rw [HS.out.hist]; omega))
                            rw [HS.out.hist] at HHI
                            obtain ⟨k0, k1, k2, k3, k4, k5, k6, k7, k8⟩ := te_cells HI.out.past.te
                            go_wp2_with (first
                              | (go_at_call 14; refine (HO1.out _).mono ?_; rintro e w' ⟨rfl, rfl⟩)
                              | (go_at_call 16; refine (HSTA.out).mono ?_; rintro e w' ⟨rfl, rfl⟩)
                              | (go_at_call 17; refine (HHI.out).mono ?_; rintro e w11 ⟨v11, rfl, hR11, hb11⟩; obtain ⟨A11, c11, rfl, hc11, hr11⟩ := Kd.R_reads hR11; have HR11 := Aside0.mk hr11; have HC11 := Aside0.mk hc11; have HB11 := Aside0.mk hb11; clear hR11 hr11 hc11 hb11)
                              | (go_at_call 19; refine (same_any A11 A9 c11 c9 L _ HR11.out (Kd.C_below (HS.out.row HI.out) HB11.out) HC11.out hc9).mono ?_; rintro e w12 ⟨rfl, n12, rfl⟩))
                            go_ret
                            exact ⟨rfl, ((HI.out.past.step HB11.out).drawN _).fin⟩
end Go.Proofs.Ythimmaffoehfaaa
