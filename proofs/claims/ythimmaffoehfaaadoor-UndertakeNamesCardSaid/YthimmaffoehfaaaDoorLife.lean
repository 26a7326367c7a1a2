/- A credit's life as it lies in memory; the functions that only read it, and those that set a field. Conditions: none. -/
import Derived.Test.YthimmaffoehfaaaDoorKinds
import Derived.Test.YthimmaffoehfaaaDoorQInt
set_option linter.unusedVariables false
set_option linter.unusedSimpArgs false
set_option linter.unusedSectionVars false
namespace Go.Proofs.YthimmaffoehfaaaDoor
open Go.RowKit Go.Proofs.YthimmaffoehfaaaDoorW.PrintWords Go.Proofs.YthimmaffoehfaaaDoorW.PrintLast Go.Proofs.YthimmaffoehfaaaDoorW.PrintMore
open Q

/-- From w to w' only blocks of 'ok' (and new ones) have turned. -/
structure Turns (ok : Nat → Prop) (w w' : World) : Prop where
  os : w'.os = w.os
  tape : w'.tape = w.tape
  output : w'.output = w.output
  size : w.heap.size ≤ w'.heap.size
  block : ∀ k, k < w.heap.size → ¬ ok k → w'.heap[k]? = w.heap[k]?
theorem Turns.refl (ok : Nat → Prop) (w : World) : Turns ok w w := ⟨rfl, rfl, rfl, Nat.le_refl _, fun _ _ _ => rfl⟩
theorem Turns.trans {ok : Nat → Prop} {a b c : World} (h : Turns ok a b) (k : Turns ok b c) : Turns ok a c :=
  ⟨k.os.trans h.os, k.tape.trans h.tape, k.output.trans h.output, Nat.le_trans h.size k.size, fun i hi ho => (k.block i (Nat.lt_of_lt_of_le hi h.size) ho).trans (h.block i hi ho)⟩
theorem Turns.of_below {ok : Nat → Prop} {w w' : World} (h : Below w.heap.size w w') : Turns ok w w' := ⟨h.os, h.tape, h.output, h.size, fun k hk _ => h.block k hk⟩
theorem Turns.of_grown {ok : Nat → Prop} {row : Option Nat} {w w' : World} (h : w.grownBy w' row) (hr : ∀ k, row = some k → ok k) : Turns ok w w' :=
  ⟨h.os, h.tape, h.output, h.size, fun k hk ho => h.block k hk (fun e => ho (hr k e.symm))⟩
theorem Turns.below {ok : Nat → Prop} {B : Nat} {w w' : World} (h : Turns ok w w') (hB : B ≤ w.heap.size) (hok : ∀ k, k < B → ¬ ok k) : Below B w w' :=
  ⟨h.os, h.tape, h.output, h.size, fun k hk => h.block k (Nat.lt_of_lt_of_le hk hB) (hok k hk)⟩
theorem Turns.mono {ok ok' : Nat → Prop} {w w' : World} (h : Turns ok w w') (hm : ∀ k, k < w.heap.size → ok k → ok' k) : Turns ok' w w' :=
  ⟨h.os, h.tape, h.output, h.size, fun k hk ho => h.block k hk (fun hc => ho (hm k hk hc))⟩
theorem Turns.set {ok : Nat → Prop} {w0 w : World} (h : Turns ok w0 w) (a : Addr) (v : Value) (ha : ok a.block) : Turns ok w0 (w.setCell a v) :=
  h.trans ⟨rfl, rfl, rfl, by simp [World.setCell], fun k hk ho => Below.heap_setCell _ _ _ _ (fun e => ho (e ▸ ha))⟩
theorem Turns.alloc {ok : Nat → Prop} {w0 w : World} (h : Turns ok w0 w) (o : Obj) : Turns ok w0 (w.alloc o) := h.trans (.of_below ((Below.refl _ _).alloc (Nat.le_refl _) o))
theorem Turns.drew {ok : Nat → Prop} {w0 w : World} (h : Turns ok w0 w) : Turns ok w0 w.drew := h.trans (.of_below (below_drew (Below.refl _ _)))
theorem Turns.drewN {ok : Nat → Prop} {w0 w : World} (h : Turns ok w0 w) (n : Nat) : Turns ok w0 (w.drewN n) := h.trans (.of_below (pw_below_drewN (Below.refl _ _) n))

/-- How a life stands. -/
structure LS where
  st : Int
  cf : Bool
  rp : Bool
  dd : Int
  da : Int
  paid : List S47
  hist : List S41

abbrev lifeCells (t : Tm) (s : LS) (pv hv : Value) : Array Value := #[.string noT, .string t.app, .string t.ben, .string t.iss, .string t.cnf, .string noT, .string noT, .string noT, .int .i64 t.sum, .int .i64 t.abv, .int .i64 t.blw, .int .i64 0, .int .i64 t.exp, .int .i64 0, .int .i64 0, .bool t.prt, .bool false, .slice none 0 0,
  .int .i64 s.st, .bool s.cf, .bool s.rp, .int .i64 s.dd, .int .i64 s.da, pv, hv]

/-- THE LIFE AT g, of the terms t, as it stands (s); its draws' and events' rows lie from B on. -/
structure LifeAt (w : World) (B g : Nat) (t : Tm) (s : LS) (pv hv : Value) : Prop where
  blk : w.heap[g]? = some (.cells (lifeCells t s pv hv) 51)
  gB : B ≤ g
  paid : Kd.R k47 47 w B (fun _ => True) pv s.paid
  hist : Kd.R k41 41 w B (fun _ => True) hv s.hist

theorem LifeAt.lt {w : World} {B g : Nat} {t : Tm} {s : LS} {pv hv : Value} (h : LifeAt w B g t s pv hv) : g < w.heap.size := (Array.getElem?_eq_some_iff.1 h.blk).1
theorem LifeAt.cell {w : World} {B g : Nat} {t : Tm} {s : LS} {pv hv : Value} (h : LifeAt w B g t s pv hv) (i : Nat) : w.cell? ⟨g, i, none⟩ = (lifeCells t s pv hv)[i]? := by
  simp [World.cell?, h.blk]
theorem LifeAt.free {w : World} {B g : Nat} {t : Tm} {s : LS} {pv hv : Value} (h : LifeAt w B g t s pv hv) (i : Nat) : w.frozen? ⟨g, i, none⟩ = false := frozen_of_row w g i _ _ h.blk
theorem k47_flat {w : World} {base : Nat} {ok1 ok2 : Nat → Prop} {x : S47} {cs : List Value} (h : k47.M w base ok1 x cs) : k47.M w base ok2 x cs := by
  rw [k47_openM h]
  exact k47_mkM _ _ _ x
theorem k41_flat {w : World} {base : Nat} {ok1 ok2 : Nat → Prop} {x : S41} {cs : List Value} (h : k41.M w base ok1 x cs) : k41.M w base ok2 x cs := by
  rw [k41_openM h]
  exact k41_mkM _ _ _ x
/-- Its rows' own blocks stand: so do the rows. -/
theorem paid_keep {w w' : World} {B : Nat} {v : Value} {xs : List S47} (h : Kd.R k47 47 w B (fun _ => True) v xs) (hm : ∀ k, v.ownBlock = some k → w'.heap[k]? = w.heap[k]?) : Kd.R k47 47 w' B (fun _ => True) v xs :=
  Kd.R_mono (Kd.R_move (Kd.R_flat (ok' := fun k => v.ownBlock = some k) (fun hm => k47_flat hm) h (fun k hk _ => hk)) hm) (fun _ _ => trivial)
theorem hist_keep {w w' : World} {B : Nat} {v : Value} {xs : List S41} (h : Kd.R k41 41 w B (fun _ => True) v xs) (hm : ∀ k, v.ownBlock = some k → w'.heap[k]? = w.heap[k]?) : Kd.R k41 41 w' B (fun _ => True) v xs :=
  Kd.R_mono (Kd.R_move (Kd.R_flat (ok' := fun k => v.ownBlock = some k) (fun hm => k41_flat hm) h (fun k hk _ => hk)) hm) (fun _ _ => trivial)
theorem LifeAt.keep {w w' : World} {B g : Nat} {t : Tm} {s : LS} {pv hv : Value} (h : LifeAt w B g t s pv hv) (hg : w'.heap[g]? = w.heap[g]?) (hp : ∀ k, pv.ownBlock = some k → w'.heap[k]? = w.heap[k]?) (hh : ∀ k, hv.ownBlock = some k → w'.heap[k]? = w.heap[k]?) : LifeAt w' B g t s pv hv :=
  ⟨hg.trans h.blk, h.gB, paid_keep h.paid hp, hist_keep h.hist hh⟩
theorem LifeAt.plt {w : World} {B g : Nat} {t : Tm} {s : LS} {pv hv : Value} (h : LifeAt w B g t s pv hv) (k : Nat) (hk : pv.ownBlock = some k) : k < w.heap.size ∧ B ≤ k ∧ k ≠ g := by
  obtain ⟨inner, ho⟩ := Kd.R_own h.paid
  refine ⟨own_lt ho k hk, own_base ho k hk, ?_⟩
  rintro rfl
  obtain ⟨cells, hc⟩ := own_typed ho k hk
  rw [h.blk] at hc
  cases hc
theorem LifeAt.hlt {w : World} {B g : Nat} {t : Tm} {s : LS} {pv hv : Value} (h : LifeAt w B g t s pv hv) (k : Nat) (hk : hv.ownBlock = some k) : k < w.heap.size ∧ B ≤ k ∧ k ≠ g := by
  obtain ⟨inner, ho⟩ := Kd.R_own h.hist
  refine ⟨own_lt ho k hk, own_base ho k hk, ?_⟩
  rintro rfl
  obtain ⟨cells, hc⟩ := own_typed ho k hk
  rw [h.blk] at hc
  cases hc
theorem LifeAt.hp {w : World} {B g : Nat} {t : Tm} {s : LS} {pv hv : Value} (h : LifeAt w B g t s pv hv) (k : Nat) (hk : hv.ownBlock = some k) (k' : Nat) (hk' : pv.ownBlock = some k') : k' ≠ k := by
  obtain ⟨inner, ho⟩ := Kd.R_own h.hist
  obtain ⟨inner', ho'⟩ := Kd.R_own h.paid
  rintro rfl
  obtain ⟨cells, hc⟩ := own_typed ho k' hk
  obtain ⟨cells', hc'⟩ := own_typed ho' k' hk'
  rw [hc] at hc'
  cases hc'
theorem LifeAt.below {w w' : World} {B g : Nat} {t : Tm} {s : LS} {pv hv : Value} (h : LifeAt w B g t s pv hv) (hb : Below w.heap.size w w') : LifeAt w' B g t s pv hv :=
  h.keep (hb.block _ h.lt) (fun k hk => hb.block _ (h.plt k hk).1) (fun k hk => hb.block _ (h.hlt k hk).1)
/-- A field is set. -/
theorem LifeAt.set {w : World} {B g : Nat} {t : Tm} {s s' : LS} {pv hv : Value} (h : LifeAt w B g t s pv hv) (i : Nat) (v : Value) (hc : (lifeCells t s pv hv).setIfInBounds i v = lifeCells t s' pv hv) (h1 : s'.paid = s.paid) (h2 : s'.hist = s.hist) : LifeAt (w.setCell ⟨g, i, none⟩ v) B g t s' pv hv where
  blk := by rw [heap_setCell_same w g i _ _ v h.blk, hc]
  gB := h.gB
  paid := by rw [h1]; exact paid_keep h.paid fun k hk => Below.heap_setCell _ _ _ _ (h.plt k hk).2.2
  hist := by rw [h2]; exact hist_keep h.hist fun k hk => Below.heap_setCell _ _ _ _ (h.hlt k hk).2.2

def bankB (t : Tm) (s : LS) : ByteArray := if s.cf = true then t.cnf else t.iss
def repB (t : Tm) (s : LS) : ByteArray := if (s.cf && !s.rp) = true then t.iss else t.app

section
variable {w : World} {B g : Nat} {t : Tm} {s : LS} {pv hv : Value}
theorem issuer_any (h : LifeAt w B g t s pv hv) : Calls Tryd.prog 21 #[.pointer (some ⟨g, 0, none⟩)] w fun e w' => e = .returned (.string t.iss) ∧ w = w' := by
  have c3 : w.cell? ⟨g, 3, none⟩ = some (.string t.iss) := h.cell 3
  go_enter Tryd.func21, Tryd.ntmps21
  go_wp2
  go_ret
  exact ⟨rfl, rfl⟩
theorem confirmer_any (h : LifeAt w B g t s pv hv) : Calls Tryd.prog 23 #[.pointer (some ⟨g, 0, none⟩)] w fun e w' => e = .returned (.string t.cnf) ∧ w = w' := by
  have c3 : w.cell? ⟨g, 4, none⟩ = some (.string t.cnf) := h.cell 4
  go_enter Tryd.func23, Tryd.ntmps23
  go_wp2
  go_ret
  exact ⟨rfl, rfl⟩
theorem beneficiary_any (h : LifeAt w B g t s pv hv) : Calls Tryd.prog 25 #[.pointer (some ⟨g, 0, none⟩)] w fun e w' => e = .returned (.string t.ben) ∧ w = w' := by
  have c3 : w.cell? ⟨g, 2, none⟩ = some (.string t.ben) := h.cell 2
  go_enter Tryd.func25, Tryd.ntmps25
  go_wp2
  go_ret
  exact ⟨rfl, rfl⟩
theorem answers_any (h : LifeAt w B g t s pv hv) : Calls Tryd.prog 15 #[.pointer (some ⟨g, 0, none⟩)] w fun e w' => e = .returned (.string (bankB t s)) ∧ w = w' := by
  have c3 : w.cell? ⟨g, 3, none⟩ = some (.string t.iss) := h.cell 3
  have c4 : w.cell? ⟨g, 4, none⟩ = some (.string t.cnf) := h.cell 4
  have c19 : w.cell? ⟨g, 19, none⟩ = some (.bool s.cf) := h.cell 19
  obtain ⟨st, cf, rp, dd, da, paid, hist⟩ := s
  cases cf with
  | true =>
    go_enter Tryd.func15, Tryd.ntmps15
    go_wp2
    go_ret
    exact ⟨rfl, rfl⟩
  | false =>
    go_enter Tryd.func15, Tryd.ntmps15
    go_wp2
    go_ret
    exact ⟨rfl, rfl⟩
theorem repays_any (h : LifeAt w B g t s pv hv) : Calls Tryd.prog 16 #[.pointer (some ⟨g, 0, none⟩)] w fun e w' => e = .returned (.string (repB t s)) ∧ w = w' := by
  have c1 : w.cell? ⟨g, 1, none⟩ = some (.string t.app) := h.cell 1
  have c3 : w.cell? ⟨g, 3, none⟩ = some (.string t.iss) := h.cell 3
  have c19 : w.cell? ⟨g, 19, none⟩ = some (.bool s.cf) := h.cell 19
  have c20 : w.cell? ⟨g, 20, none⟩ = some (.bool s.rp) := h.cell 20
  obtain ⟨st, cf, rp, dd, da, paid, hist⟩ := s
  cases cf <;> cases rp
  all_goals
    go_enter Tryd.func16, Tryd.ntmps16
    go_wp2
    go_ret
    exact ⟨rfl, rfl⟩
end
end Go.Proofs.YthimmaffoehfaaaDoor
