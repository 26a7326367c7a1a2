/- Lots looked up in a table: may they be, and are their goods there? Conditions: texts as a machine can hold. -/
import Derived.Test.YtnhbbfbllkefcaaDoorMake
import Derived.Deep.QuietTactic
import Derived.BigQuiet
set_option linter.unusedVariables false
set_option linter.unusedSimpArgs false
set_option linter.unusedSectionVars false
namespace Go.Proofs.YtnhbbfbllkefcaaDoor
open Go.RowKit Go.Proofs.YtnhbbfbllkefcaaDoorW.PrintWords Go.Proofs.YtnhbbfbllkefcaaDoorW.PrintLast Go.Proofs.YtnhbbfbllkefcaaDoorW.PrintMore
open Q

def lotB (x : S38) : Bool := nameB x.f0 && cntB x.f1
def SizedL (l : List S38) : Prop := ∀ x ∈ l, x.f0.size ≤ 140737488351232
abbrev lO (x : S38) : Obj := .cells #[.string x.f0, .int .i64 x.f1] 38
theorem l_cells {w : World} {g : Nat} {x : S38} (h : w.heap[g]? = some (lO x)) : w.cell? ⟨g, 0, none⟩ = some (.string x.f0) ∧ w.cell? ⟨g, 1, none⟩ = some (.int .i64 x.f1) := by
  refine ⟨?_, ?_⟩ <;> simp [World.cell?, h]
theorem known1_any (l : List S38) (w : World) (hs : SizedL l) : PaysL 50 #[] (fun x => !lotB x) l w := by
  intro W x hx hb
  have HM := Aside0.mk (fun W => mark_any x.f0 W (hs x hx))
  have HB := Aside0.mk ((Below.refl W.heap.size W).alloc (Nat.le_refl _) (lO x))
  show Calls Tryd.prog 50 #[vL x] W fun e W' => e = .returned (.bool (!lotB x)) ∧ Below W.heap.size W W'
  obtain ⟨f0, f1⟩ := x
  unfold lotB
  dsimp only at HM ⊢
  obtain ⟨b, hb2⟩ : ∃ b, b = (!(nameB f0 && cntB f1)) := ⟨_, rfl⟩
  rw [← hb2]
  generalize nameB f0 = n0 at HM hb2
  have HK := Aside0.mk hb2
  clear hb2 hb hx hs
  go_enter Tryd.func50, Tryd.ntmps50
  go_wp2_with (first
    | (go_at_call 30; refine (HM.out _).mono ?_; rintro e w' ⟨rfl, rfl⟩)
    | (go_at_call 31; refine (cnt_any _ _).mono ?_; rintro e w' ⟨rfl, rfl⟩))
  all_goals
    go_ret
    refine ⟨?_, HB.out⟩
    rw [HK.out]
    simp [*]
theorem good_field (a : ByteArray) (b c d : Int) (w : World) : (Instr.field 36 (.agg #[.string a, .int .i64 b, .int .i64 c, .int .i64 d]) 0).run Tryd.prog w = .ok (.string a) w := by kernel_rfl
/-- Is the good of a lot not there (or of no code)? -/
def missB (M : List S36) (x : S38) : Bool := match findG M x.f0 with
  | some y => y.f0.toList.isEmpty
  | none => true
theorem known2_any {w : World} {g r b : Nat} {M : List S36} (l : List S38) (hT : TabAt w g r M) (hb : w.heap[b]? = some (.cells #[.pointer (some ⟨g, 0, none⟩)] 28)) : PaysL 51 #[.pointer (some ⟨b, 0, none⟩)] (missB M) l w := by
  intro W x hx hbW
  show Calls Tryd.prog 51 #[vL x, .pointer (some ⟨b, 0, none⟩)] W fun e W' => e = .returned (.bool (missB M x)) ∧ Below W.heap.size W W'
  have hbl : b < w.heap.size := (Array.getElem?_eq_some_iff.1 hb).1
  have HT := hT.below hbW
  have hbB := (hbW.block _ hbl).trans hb
  have hbW2 : b < W.heap.size := (Array.getElem?_eq_some_iff.1 hbB).1
  have HB := Aside0.mk ((Below.refl W.heap.size W).alloc (Nat.le_refl _) (lO x))
  have HT1 := HT.below HB.out
  have hlk := fun n => look_one (HT1.below (pw_below_drewN (Below.refl _ _) n)) x.f0
  have hcg := HT1.cell
  have hcb : (W.alloc (lO x)).cell? ⟨b, 0, none⟩ = some (.pointer (some ⟨g, 0, none⟩)) := by
    have := (HB.out.block _ hbW2).trans hbB
    simp [World.cell?, this]
  obtain ⟨hx0, hx1⟩ := l_cells (heap_alloc_new W (lO x))
  unfold missB
  clear hT hb hbW hbl HT hbB HT1 hx
  obtain ⟨f0, f1⟩ := x
  dsimp only [lO] at hlk hcg hcb hx0 hx1 HB ⊢
  cases hf : findG M f0 with
  | none =>
    rw [hf] at hlk
    dsimp only [Option.map_none, Option.getD_none, zG] at hlk ⊢
    clear hf
    go_enter Tryd.func51, Tryd.ntmps51
    go_wp2_with fail
    generalize W.alloc (.cells #[.string f0, .int .i64 f1] 38) = W1 at hlk hcg hcb hx0 hx1 HB ⊢
    have hfl := fun w => good_field ⟨#[]⟩ 0 0 0 w
    go_quiet (fail)
    go_wp2
    go_ret
    exact ⟨rfl, pw_below_drewN HB.out _⟩
  | some y =>
    rw [hf] at hlk
    dsimp only [Option.map_some, Option.getD_some] at hlk ⊢
    clear hf
    obtain ⟨y0, y1, y2, y3⟩ := y
    dsimp only [vG] at hlk ⊢
    go_enter Tryd.func51, Tryd.ntmps51
    go_wp2_with fail
    generalize W.alloc (.cells #[.string f0, .int .i64 f1] 38) = W1 at hlk hcg hcb hx0 hx1 HB ⊢
    have hfl := fun w => good_field y0 y1 y2 y3 w
    go_quiet (fail)
    go_wp2
    go_ret
    exact ⟨rfl, pw_below_drewN HB.out _⟩
def knownE (M : List S36) (l : List S38) : Int := if l.any (fun x => !lotB x) then 1 else if l.any (missB M) then 4 else 0
theorem known_any {w : World} {g r : Nat} {M : List S36} (A : Option Addr) (c : Nat) (l : List S38) (hT : TabAt w g r M) (hr : Kd.C k38 w A l.length l) (hc : l.length ≤ c) (hs : SizedL l) :
    Calls Tryd.prog 33 #[.pointer (some ⟨g, 0, none⟩), .slice A l.length c] w fun e w' => e = .returned (.int .i64 (knownE M l)) ∧ Below w.heap.size w w' := by
  have HR := Aside0.mk hr
  have HC := Aside0.mk hc
  have HS := Aside0.mk hs
  have HB := Aside0.mk ((Below.refl w.heap.size w).alloc (Nat.le_refl _) (.cells #[.pointer (some ⟨g, 0, none⟩)] 28))
  have HBX := Aside0.mk (heap_alloc_new w (.cells #[.pointer (some ⟨g, 0, none⟩)] 28))
  have HT := Aside0.mk (hT.below HB.out)
  have HE1 := Aside0.mk (fun args W => show (callFunc 50 args).run Tryd.prog W = .ok (.enter 50 args) W by kernel_rfl)
  have HE2 := Aside0.mk (fun args W => show (callFunc 51 args).run Tryd.prog W = .ok (.enter 51 args) W by kernel_rfl)
  obtain ⟨res, hres⟩ : ∃ res, res = knownE M l := ⟨_, rfl⟩
  rw [← hres]
  unfold knownE at hres
  have HRES := Aside0.mk hres
  clear hT hr hc hs hres
  go_enter Tryd.func33, Tryd.ntmps33
  go_wp2_with fail
  refine (hasL_any 50 #[] HE1.out (fun x => !lotB x) A c l _ (Kd.C_below HR.out HB.out) HC.out (known1_any l _ HS.out)).mono ?_
  rintro e w2 ⟨rfl, hb2⟩
  have HB2 := Aside0.mk (HB.out.trans (hb2.mono HB.out.size))
  have HT2 := Aside0.mk (HT.out.below hb2)
  have HBX2 := Aside0.mk ((hb2.block _ (by simp)).trans HBX.out)
  clear hb2
  obtain ⟨b, hb⟩ : ∃ b, b = l.any (fun x => !lotB x) := ⟨_, rfl⟩
  rw [← hb] at HRES ⊢
  clear hb
  cases b with
  | true =>
    go_wp2
    go_ret
    exact ⟨by rw [HRES.out]; rfl, HB2.out⟩
  | false =>
    go_wp2_with fail
    refine (hasL_any 51 #[.pointer (some ⟨w.heap.size, 0, none⟩)] HE2.out (missB M) A c l _ (Kd.C_below HR.out HB2.out) HC.out (known2_any l HT2.out HBX2.out)).mono ?_
    rintro e w3 ⟨rfl, hb3⟩
    have HB3 := Aside0.mk (HB2.out.trans (hb3.mono HB2.out.size))
    clear hb3
    obtain ⟨b, hb⟩ : ∃ b, b = l.any (missB M) := ⟨_, rfl⟩
    rw [← hb] at HRES ⊢
    clear hb
    cases b with
    | true =>
      go_wp2
      go_ret
      exact ⟨by rw [HRES.out]; rfl, HB3.out⟩
    | false =>
      go_wp2
      go_ret
      exact ⟨by rw [HRES.out]; rfl, HB3.out⟩
end Go.Proofs.YtnhbbfbllkefcaaDoor
