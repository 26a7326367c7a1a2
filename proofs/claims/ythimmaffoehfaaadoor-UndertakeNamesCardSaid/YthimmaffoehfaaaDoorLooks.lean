/- The five looks at a draw, and the first that is wrong. Conditions: rows of at most a thousand draws. -/
import Derived.Test.YthimmaffoehfaaaDoorDraws
import Derived.Laws.EntriesVeiled
import Derived.StillTailTactics
set_option linter.unusedVariables false
set_option linter.unusedSimpArgs false
set_option linter.unusedSectionVars false
namespace Go.Proofs.YthimmaffoehfaaaDoor
open Go.RowKit Go.Proofs.YthimmaffoehfaaaDoorW.PrintWords Go.Proofs.YthimmaffoehfaaaDoorW.PrintLast Go.Proofs.YthimmaffoehfaaaDoorW.PrintMore
open Q

abbrev crO (t : Tm) : Obj := .cells (crCells t) 35
abbrev drO (d : S47) : Obj := .cells #[.int .i64 d.f0, .int .i64 d.f1] 47
abbrev slO (A : Option Addr) (n c : Nat) : Obj := .cells #[.slice A n c] 48
theorem one_cell {w : World} {b T : Nat} {v : Value} (h : w.heap[b]? = some (.cells #[v] T)) : w.cell? ⟨b, 0, none⟩ = some v := by simp [World.cell?, h]
theorem blk_lt {w : World} {b : Nat} {o : Obj} (h : w.heap[b]? = some o) : b < w.heap.size := (Array.getElem?_eq_some_iff.1 h).1

def look1 (t : Tm) (al : List S47) : Bool := !boundsB t || !drawsB none al
def look2 (t : Tm) (d : S47) : Bool := decide (t.exp < d.f0)
def look3 (t : Tm) (l : List S47) : Bool := !t.prt && decide (0 < l.length)
def look4 (t : Tm) (al : List S47) : Bool := decide (mostI t < sumD al)
def look5 (t : Tm) (d : S47) : Bool := !t.prt && decide (d.f1 < leastI t)

section
variable {w : World} {t : Tm} {l : List S47} {d : S47} {b3 b4 b5 b7 : Nat}

set_option maxRecDepth 100000 in
theorem look1_any {A : Option Addr} {c : Nat} (h3 : w.heap[b3]? = some (crO t)) (c7 : w.cell? ⟨b7, 0, none⟩ = some (.slice A l.length c)) (hr : Kd.C k47 w A l.length l) (hc : l.length ≤ c) (hl : l.length ≤ 1000) :
    Calls Tryd.prog 44 #[.pointer (some ⟨b3, 0, none⟩), .pointer (some ⟨b7, 0, none⟩)] w fun e w' => e = .returned (.bool (look1 t l)) ∧ Below w.heap.size w w' := by
  have H3 := Aside0.mk h3
  have l7 : b7 < w.heap.size := World.block_lt_of_cell? w _ c7
  have l3 := blk_lt h3
  have HR := Aside0.mk hr
  have HC := Aside0.mk hc
  have HL := Aside0.mk hl
  obtain ⟨b, hb⟩ : ∃ b, b = boundsB t := ⟨_, rfl⟩
  have HBD := Aside0.mk (bounds_any t)
  have HE : Aside0 (look1 t l = (!b || !drawsB none l)) := ⟨by rw [hb]; rfl⟩
  rw [← hb] at HBD
  clear h3 hr hc hl hb
  go_enter Tryd.func44, Tryd.ntmps44
  go_wp2_with ((with_reducible refine gate_dst (N := 3) rfl ?_); refine wpList_load_mid rfl 35 (.tmp 0) rfl b3 0 rfl (crCells t).toList _ (cr_range H3.out) Tryd.underlying35 rfl (by kernel_rfl) ?_)
  refine (HBD.out _).mono ?_
  rintro e w1 ⟨rfl, hb1⟩
  have c7' := (hb1.cell (p := ⟨b7, 0, none⟩) l7).trans c7
  have HR1 := Aside0.mk (Kd.C_below HR.out hb1)
  have HB1 := Aside0.mk hb1
  clear hb1
  cases b with
  | false =>
    go_wp2
    go_ret
    exact ⟨by rw [HE.out]; rfl, HB1.out⟩
  | true =>
    go_wp2_with (go_at_call 45; refine (draws_any _ _ _ _ HR1.out HC.out HL.out).mono ?_; rintro e w2 ⟨rfl, hb2⟩; have HB2 := Aside0.mk hb2; clear hb2)
    all_goals
      go_ret
      exact ⟨by rw [HE.out]; simp_all, HB1.out.trans (HB2.out.mono HB1.out.size)⟩

theorem look2_any (h5 : w.heap[b5]? = some (drO d)) (h3 : w.heap[b3]? = some (crO t)) :
    Calls Tryd.prog 46 #[.pointer (some ⟨b5, 0, none⟩), .pointer (some ⟨b3, 0, none⟩)] w fun e w' => e = .returned (.bool (look2 t d)) ∧ Below w.heap.size w w' := by
  have c5 : w.cell? ⟨b5, 0, none⟩ = some (.int .i64 d.f0) := by simp [World.cell?, h5]
  have c12 : w.cell? ⟨b3, 12, none⟩ = some (.int .i64 t.exp) := by simp [World.cell?, h3]
  clear h3 h5
  go_enter Tryd.func46, Tryd.ntmps46
  go_wp2
  go_ret
  exact ⟨rfl, Below.refl _ _⟩

theorem look3_any {A : Option Addr} {c : Nat} (h3 : w.heap[b3]? = some (crO t)) (h4 : w.heap[b4]? = some (slO A l.length c)) :
    Calls Tryd.prog 47 #[.pointer (some ⟨b3, 0, none⟩), .pointer (some ⟨b4, 0, none⟩)] w fun e w' => e = .returned (.bool (look3 t l)) ∧ Below w.heap.size w w' := by
  have c15 : w.cell? ⟨b3, 15, none⟩ = some (.bool t.prt) := by simp [World.cell?, h3]
  have c4 := one_cell h4
  clear h3 h4
  have key : ∀ x, x = look3 t l → Ending.returned (.bool x) = Ending.returned (.bool (look3 t l)) := fun x h => by rw [h]
  go_enter Tryd.func47, Tryd.ntmps47
  go_wp2
  all_goals
    go_ret
    refine ⟨key _ ?_, Below.refl _ _⟩
    clear key
    unfold look3
    first
      | (simp [*]; done)
      | (simp_all; done)
theorem range_below {w w' : World} {B b o : Nat} {cs : List Value} (h : w.rangeAt b o cs) (hb : Below B w w') (hl : b < B) : w'.rangeAt b o cs := fun j v hv => (hb.cell (p := ⟨b, o + j, none⟩) hl).trans (h j v hv)

abbrev CrAt (w : World) (b : Nat) (t : Tm) : Prop := w.cell? ⟨b, 0, none⟩ = some (.string noT) ∧ w.cell? ⟨b, 1, none⟩ = some (.string t.app) ∧ w.cell? ⟨b, 2, none⟩ = some (.string t.ben) ∧ w.cell? ⟨b, 3, none⟩ = some (.string t.iss) ∧ w.cell? ⟨b, 4, none⟩ = some (.string t.cnf) ∧ w.cell? ⟨b, 5, none⟩ = some (.string noT) ∧ w.cell? ⟨b, 6, none⟩ = some (.string noT) ∧ w.cell? ⟨b, 7, none⟩ = some (.string noT) ∧ w.cell? ⟨b, 8, none⟩ = some (.int .i64 t.sum) ∧ w.cell? ⟨b, 9, none⟩ = some (.int .i64 t.abv) ∧ w.cell? ⟨b, 10, none⟩ = some (.int .i64 t.blw) ∧ w.cell? ⟨b, 11, none⟩ = some (.int .i64 0) ∧ w.cell? ⟨b, 12, none⟩ = some (.int .i64 t.exp) ∧ w.cell? ⟨b, 13, none⟩ = some (.int .i64 0) ∧ w.cell? ⟨b, 14, none⟩ = some (.int .i64 0) ∧ w.cell? ⟨b, 15, none⟩ = some (.bool t.prt) ∧ w.cell? ⟨b, 16, none⟩ = some (.bool false) ∧ w.cell? ⟨b, 17, none⟩ = some (.slice none 0 0)
theorem cr_at {w : World} {b : Nat} {t : Tm} (h : w.heap[b]? = some (crO t)) : CrAt w b t := by
  refine ⟨?_, ?_, ?_, ?_, ?_, ?_, ?_, ?_, ?_, ?_, ?_, ?_, ?_, ?_, ?_, ?_, ?_, ?_⟩ <;> simp [World.cell?, h]
theorem CrAt.below {w w' : World} {B b : Nat} {t : Tm} (h : CrAt w b t) (hb : Below B w w') (hl : b < B) : CrAt w' b t := by
  obtain ⟨h0, h1, h2, h3, h4, h5, h6, h7, h8, h9, h10, h11, h12, h13, h14, h15, h16, h17⟩ := h
  have k := fun i => hb.cell (p := ⟨b, i, none⟩) hl
  exact ⟨(k _).trans h0, (k _).trans h1, (k _).trans h2, (k _).trans h3, (k _).trans h4, (k _).trans h5, (k _).trans h6, (k _).trans h7, (k _).trans h8, (k _).trans h9, (k _).trans h10, (k _).trans h11, (k _).trans h12, (k _).trans h13, (k _).trans h14, (k _).trans h15, (k _).trans h16, (k _).trans h17⟩

set_option maxRecDepth 100000 in
theorem look4_any {A : Option Addr} {c : Nat} (h3 : w.heap[b3]? = some (crO t)) (c7 : w.cell? ⟨b7, 0, none⟩ = some (.slice A l.length c)) (hr : Kd.C k47 w A l.length l) (hc : l.length ≤ c) (hl : l.length ≤ 1000) (hb : boundsB t = true) (hd : drawsB none l = true) :
    Calls Tryd.prog 48 #[.pointer (some ⟨b7, 0, none⟩), .pointer (some ⟨b3, 0, none⟩)] w fun e w' => e = .returned (.bool (look4 t l)) ∧ Below w.heap.size w w' := by
  have HR3 := Aside0.mk (cr_at h3)
  have r3 := cr_at h3
  have l7 : b7 < w.heap.size := World.block_lt_of_cell? w _ c7
  have l3 := blk_lt h3
  have HMO := Aside0.mk (fun W => most_any t W hb)
  have HSU := Aside0.mk (fun (W : World) (hb : Below w.heap.size w W) => sum_any A c l W (Kd.C_below hr hb) hc hl (draws_bounded _ _ hd))
  clear h3 hr hc hl hb hd
  obtain ⟨k0, k1, k2, k3, k4, k5, k6, k7, k8, k9, k10, k11, k12, k13, k14, k15, k16, k17⟩ := r3
  go_enter Tryd.func48, Tryd.ntmps48
  go_wp2
  go_region_held3 (fun w' => CrAt w' b3 t ∧ w'.cell? ⟨b7, 0, none⟩ = some (.slice A l.length c)) (((try dsimp only); (repeat' apply And.intro) <;> (first | assumption | go_keep)))
    (first
      | (go_at_call 49; refine (HSU.out _ (below_drew (Below.refl _ _))).mono ?_; rintro e w1 ⟨rfl, hb0⟩; have hb1 : Below w.heap.size w w1 := (below_drew (Below.refl w.heap.size w)).trans hb0; have c7' := (hb1.cell (p := ⟨b7, 0, none⟩) l7).trans c7; obtain ⟨j0, j1, j2, j3, j4, j5, j6, j7, j8, j9, j10, j11, j12, j13, j14, j15, j16, j17⟩ := HR3.out.below hb1 l3; have HB1 := Aside0.mk hb1; clear hb1 hb0)
      | (go_at_call 31; refine (HMO.out _).mono ?_; rintro e w2 ⟨rfl, hb2⟩; have hb3 : Below w.heap.size w w2 := HB1.out.trans (hb2.mono HB1.out.size); have c7'' := (hb3.cell (p := ⟨b7, 0, none⟩) l7).trans c7; obtain ⟨i0, i1, i2, i3, i4, i5, i6, i7, i8, i9, i10, i11, i12, i13, i14, i15, i16, i17⟩ := HR3.out.below hb3 l3; have HB2 := Aside0.mk hb3; clear hb2 hb3))
  go_wp2
  go_ret
  exact ⟨rfl, HB2.out⟩

end
end Go.Proofs.YthimmaffoehfaaaDoor
