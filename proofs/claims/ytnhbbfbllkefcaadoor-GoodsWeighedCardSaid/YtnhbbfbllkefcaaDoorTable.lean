/- A table of goods as it lies in memory: made of goods, one by one. Conditions: texts as a machine can hold. -/
import Derived.Test.YtnhbbfbllkefcaaDoorSearch
import Derived.Test.YtnhbbfbllkefcaaDoorQCnt
import Derived.Test.YtnhbbfbllkefcaaDoorMaps
import Derived.StillTailTactics
import Derived.IntWalk
set_option linter.unusedVariables false
set_option linter.unusedSimpArgs false
set_option linter.unusedSectionVars false
namespace Go.Proofs.YtnhbbfbllkefcaaDoor
open Go.RowKit Go.Proofs.YtnhbbfbllkefcaaDoorW.PrintWords Go.Proofs.YtnhbbfbllkefcaaDoorW.PrintLast Go.Proofs.YtnhbbfbllkefcaaDoorW.PrintMore
open Q

theorem below_drew {B : Nat} {w w' : World} (h : Below B w w') : Below B w w'.drew := pw_below_drewN h 1
theorem below_keep {W w1 : World} {N : Nat} (hb : Below N W w1) : (∀ b o, b < N → w1.cell? ⟨b, o, none⟩ = W.cell? ⟨b, o, none⟩) ∧ ∀ b o, b < N → w1.frozen? ⟨b, o, none⟩ = W.frozen? ⟨b, o, none⟩ :=
  ⟨fun b o h => hb.cell (p := ⟨b, o, none⟩) h, fun b o h => hb.frozen (p := ⟨b, o, none⟩) h⟩
def cntB (n : Int) : Bool := decide (1 ≤ n) && decide (n ≤ 1048576)
theorem cnt_any (n : Int) (w : World) : Calls Tryd.prog 31 #[.int .i64 n] w fun e w' => e = .returned (.bool (cntB n)) ∧ w = w' := by
  have key : ∀ b, b = cntB n → Ending.returned (.bool b) = Ending.returned (.bool (cntB n)) := fun b h => by rw [h]
  by_cases h : 1 ≤ n
  · have h1 : decide (1 ≤ n) = true := by simpa using h
    go_enter Tryd.func31, Tryd.ntmps31
    go_wp2
    go_ret
    exact ⟨key _ (by unfold cntB; first | (simp [h]; done) | (simp [h]; intros; omega)), rfl⟩
  · have h1 : decide (1 ≤ n) = false := by simpa using h
    go_enter Tryd.func31, Tryd.ntmps31
    go_wp2
    go_ret
    exact ⟨key _ (by unfold cntB; first | (simp [h]; done) | (simp [h]; intros; omega)), rfl⟩
def mayG (x : S36) : Bool := nameB x.f0 && decide (0 ≤ x.f1) && decide (x.f1 ≤ 9) && cntB x.f2 && cntB x.f3
def SizedG (l : List S36) : Prop := ∀ x ∈ l, x.f0.size ≤ 140737488351232
abbrev gO (x : S36) : Obj := .cells #[.string x.f0, .int .i64 x.f1, .int .i64 x.f2, .int .i64 x.f3] 36
theorem may_any (x : S36) (w : World) (hs : x.f0.size ≤ 140737488351232) : Calls Tryd.prog 15 #[vG x] w fun e w' => e = .returned (.bool (mayG x)) ∧ Below w.heap.size w w' := by
  obtain ⟨f0, f1, f2, f3⟩ := x
  simp only at hs
  have HN := Aside0.mk (fun W => mark_any f0 W hs)
  have HB := Aside0.mk ((Below.refl w.heap.size w).alloc (Nat.le_refl _) (gO ⟨f0, f1, f2, f3⟩))
  obtain ⟨b, hb⟩ : ∃ b, b = mayG ⟨f0, f1, f2, f3⟩ := ⟨_, rfl⟩
  rw [← hb]
  unfold mayG at hb
  dsimp only at hb
  generalize nameB f0 = n0 at HN hb
  have HK := Aside0.mk hb
  clear hs hb
  go_enter Tryd.func15, Tryd.ntmps15
  go_wp2_with (first
    | (go_at_call 30; refine (HN.out _).mono ?_; rintro e w' ⟨rfl, rfl⟩)
    | (go_at_call 31; refine (cnt_any _ _).mono ?_; rintro e w' ⟨rfl, rfl⟩))
  all_goals
    go_ret
    refine ⟨?_, HB.out⟩
    rw [HK.out]
    first
      | (simp [*]; done)
      | (simp [*]; intros; omega)
theorem new1_any (l : List S36) (w : World) (hs : SizedG l) : PaysG 24 #[] (fun x => !mayG x) l w := by
  intro W x hx hb
  have HM := Aside0.mk (fun W => may_any x W (hs x hx))
  have HB := Aside0.mk ((Below.refl W.heap.size W).alloc (Nat.le_refl _) (gO x))
  show Calls Tryd.prog 24 #[vG x] W fun e W' => e = .returned (.bool (!mayG x)) ∧ Below W.heap.size W W'
  obtain ⟨b, hb2⟩ : ∃ b, b = mayG x := ⟨_, rfl⟩
  rw [← hb2] at HM ⊢
  clear hb2 hb hx hs
  go_enter Tryd.func24, Tryd.ntmps24
  go_wp2_with fail
  refine (HM.out _).mono ?_
  rintro e w2 ⟨rfl, hb2⟩
  have HB2 := Aside0.mk (HB.out.trans (hb2.mono HB.out.size))
  clear hb2
  go_wp2
  go_ret
  exact ⟨rfl, HB2.out⟩

def gE (x : S36) : ByteArray × Value := (x.f0, vG x)
/-- A TABLE AT g: its map in block r, of these goods, in the order of their coming. -/
structure TabAt (w : World) (g r : Nat) (M : List S36) : Prop where
  blk : w.heap[g]? = some (.cells #[.map (some r)] 56)
  map : MapAt Value.string w r (M.map gE)
theorem TabAt.lt {w : World} {g r : Nat} {M : List S36} (h : TabAt w g r M) : g < w.heap.size := (Array.getElem?_eq_some_iff.1 h.blk).1
theorem TabAt.keep {w w' : World} {g r : Nat} {M : List S36} (h : TabAt w g r M) (hg : w'.heap[g]? = w.heap[g]?) (hr : w'.heap[r]? = w.heap[r]?) : TabAt w' g r M := ⟨hg.trans h.blk, h.map.keep hr⟩
theorem TabAt.below {w w' : World} {g r : Nat} {M : List S36} (h : TabAt w g r M) (hb : Below w.heap.size w w') : TabAt w' g r M := h.keep (hb.block _ h.lt) (hb.block _ h.map.lt)
theorem TabAt.cell {w : World} {g r : Nat} {M : List S36} (h : TabAt w g r M) : w.cell? ⟨g, 0, none⟩ = some (.map (some r)) := by simp [World.cell?, h.blk]
def zG : Value := .agg #[.string ⟨#[]⟩, .int .i64 0, .int .i64 0, .int .i64 0]
theorem zero36 (w : World) : (zeroValue 36).run Tryd.prog w = .ok zG w := by kernel_rfl
/-- The good of a code among these. -/
def findG (M : List S36) (code : ByteArray) : Option S36 := M.find? fun x => decide (x.f0 = code)
theorem seek_gE (M : List S36) (code : ByteArray) : ∀ i, (seek code (M.map gE) i).map (·.2) = (findG M code).map vG := by
  induction M with
  | nil => intro i; rfl
  | cons x M ih =>
    intro i
    rw [List.map_cons]
    unfold seek findG
    by_cases h : code = x.f0
    · rw [if_pos (by exact h), List.find?_cons_of_pos (by simpa using h.symm)]
      rfl
    · rw [if_neg (by exact h), List.find?_cons_of_neg (by simpa using fun e => h e.symm)]
      exact ih (i + 1)
theorem mget_gE (M : List S36) (code : ByteArray) : mget (M.map gE) code = (findG M code).map vG := seek_gE M code 0
theorem mput_new (M : List S36) (x : S36) (h : findG M x.f0 = none) : mput (M.map gE) x.f0 (vG x) = (M ++ [x]).map gE := by
  have hs : seek x.f0 (M.map gE) 0 = none := by
    have := seek_gE M x.f0 0
    rw [h] at this
    simpa using this
  unfold mput
  rw [hs, List.map_append]
  rfl
theorem look_any {w : World} {g r : Nat} {M : List S36} (h : TabAt w g r M) (code : ByteArray) : (Instr.lookup 54 (.map (some r)) (.string code) true).run Tryd.prog w = .ok (.tuple #[((findG M code).map vG).getD zG, .bool (findG M code).isSome]) w := by
  cases hf : findG M code with
  | none =>
    have hm : mget (M.map gE) code = none := by rw [mget_gE, hf]; rfl
    have := run_lookup_miss (P := Tryd.prog) (strKey Tryd.underlying9) Tryd.underlying54 h.map code hm (zero36 w) true
    simpa using this
  | some x =>
    have hm : mget (M.map gE) code = some (vG x) := by rw [mget_gE, hf]; rfl
    have := run_lookup_hit (P := Tryd.prog) (strKey Tryd.underlying9) Tryd.underlying54 h.map code _ hm true
    simpa using this
theorem look_one {w : World} {g r : Nat} {M : List S36} (h : TabAt w g r M) (code : ByteArray) : (Instr.lookup 54 (.map (some r)) (.string code) false).run Tryd.prog w = .ok (((findG M code).map vG).getD zG) w := by
  cases hf : findG M code with
  | none =>
    have hm : mget (M.map gE) code = none := by rw [mget_gE, hf]; rfl
    have := run_lookup_miss (P := Tryd.prog) (strKey Tryd.underlying9) Tryd.underlying54 h.map code hm (zero36 w) false
    simpa using this
  | some x =>
    have hm : mget (M.map gE) code = some (vG x) := by rw [mget_gE, hf]; rfl
    have := run_lookup_hit (P := Tryd.prog) (strKey Tryd.underlying9) Tryd.underlying54 h.map code _ hm false
    simpa using this
end Go.Proofs.YtnhbbfbllkefcaaDoor
