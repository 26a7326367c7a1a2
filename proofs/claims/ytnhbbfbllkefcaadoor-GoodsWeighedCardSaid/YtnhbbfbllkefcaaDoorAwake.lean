/- The chapter's example, as the statements ask it ahead. Conditions: the table of classes lies as the text lays it. -/
import Derived.Test.YtnhbbfbllkefcaaDoorJoin
import Derived.Test.YtnhbbfbllkefcaaDoorApart
set_option linter.unusedVariables false
set_option linter.unusedSimpArgs false
set_option linter.unusedSectionVars false
namespace Go.Proofs.YtnhbbfbllkefcaaDoor
open Go.RowKit Go.Proofs.YtnhbbfbllkefcaaDoorW.PrintWords Go.Proofs.YtnhbbfbllkefcaaDoorW.PrintLast Go.Proofs.YtnhbbfbllkefcaaDoorW.PrintMore
open Q

def gCs (x : S36) : List Value := [.string x.f0, .int .i64 x.f1, .int .i64 x.f2, .int .i64 x.f3]
def lCs (x : S38) : List Value := [.string x.f0, .int .i64 x.f1]
theorem flat_get {α : Type} {f : α → List Value} {n : Nat} (hf : ∀ x, (f x).length = n) : ∀ (l : List α) (j : Nat) (p : α), l[j]? = some p → ∀ (i : Nat) u, (f p)[i]? = some u → (l.flatMap f)[j * n + i]? = some u := by
  intro l
  induction l with
  | nil => intro j p hj; simp at hj
  | cons x l ih =>
    intro j p hj i u hu
    have hi : i < n := by have := (List.getElem?_eq_some_iff.1 hu).1; rw [hf] at this; exact this
    cases j with
    | zero =>
      simp at hj
      subst hj
      rw [List.flatMap_cons, List.getElem?_append_left (by rw [hf]; omega), Nat.zero_mul, Nat.zero_add]
      exact hu
    | succ j =>
      have e2 : (j + 1) * n + i = (f x).length + (j * n + i) := by rw [hf, Nat.succ_mul]; omega
      rw [List.flatMap_cons, e2, List.getElem?_append_right (by omega), Nat.add_sub_cancel_left]
      exact ih j p (by simpa using hj) i u hu
/-- A block that holds these goods (lots) reads as a row of them. -/
theorem goods_in {W : World} {b : Nat} {ys : List S36} (h : W.heap[b]? = some (.cells (ys.flatMap gCs).toArray 36)) (hl : ys.length ≤ 1000) : Kd.C k36 W (some ⟨b, 0, none⟩) ys.length ys := by
  refine ⟨rfl, by omega, fun _ => ⟨_, rfl, fun j p hj => ⟨_, rfl, k36_mk W p, fun i u hu => ?_⟩⟩⟩
  have e : (⟨b, 0, none⟩ : Addr).add (j * k36.sz + i) = ⟨b, j * 4 + i, none⟩ := by rw [add_plain, show k36.sz = 4 from rfl]; try simp only [Nat.zero_add]
  rw [e]
  simp only [World.cell?, h]
  have := flat_get (f := gCs) (n := 4) (fun _ => rfl) ys j p hj i u hu
  simpa using this
theorem lots_in {W : World} {b : Nat} {ys : List S38} (h : W.heap[b]? = some (.cells (ys.flatMap lCs).toArray 38)) (hl : ys.length ≤ 1000) : Kd.C k38 W (some ⟨b, 0, none⟩) ys.length ys := by
  refine ⟨rfl, by omega, fun _ => ⟨_, rfl, fun j p hj => ⟨_, rfl, k38_mk W p, fun i u hu => ?_⟩⟩⟩
  have e : (⟨b, 0, none⟩ : Addr).add (j * k38.sz + i) = ⟨b, j * 2 + i, none⟩ := by rw [add_plain, show k38.sz = 2 from rfl]; try simp only [Nat.zero_add]
  rw [e]
  simp only [World.cell?, h]
  have := flat_get (f := lCs) (n := 2) (fun _ => rfl) ys j p hj i u hu
  simpa using this
def tea : ByteArray := ⟨#[116, 101, 97]⟩
def glass : ByteArray := ⟨#[103, 108, 97, 115, 115]⟩
def exG : List S36 := [⟨tea, 0, 2, 1⟩, ⟨glass, 0, 5, 1⟩]
def exL : List S38 := [⟨tea, 3⟩, ⟨glass, 1⟩]
def exJ : List S38 := [⟨tea, 1⟩]
theorem exG_ok : errN exG = 0 := by decide +kernel
theorem exG_may : AllMay exG := by
  intro x hx
  simp only [exG, List.mem_cons, List.not_mem_nil, or_false] at hx
  rcases hx with rfl | rfl <;> decide +kernel
theorem exL_w : weightR exG exL = (11, 0) := by decide +kernel
theorem exJ_len : (joinL exJ).length = 1 := by
  unfold joinL
  rw [List.length_map, keys_len]
  decide +kernel
theorem ap38 : apartB 3 8 = true := by decide +kernel
theorem ap28 : apartB 2 8 = false := by decide +kernel

set_option maxRecDepth 100000 in
set_option maxHeartbeats 1000000 in
theorem awake_any (w : World) (h : AptAt w) : Calls Tryd.prog 7 #[] w fun e w' => e = .returned (.bool true) ∧ Below w.heap.size w w' := by
  have HA := Aside0.mk h
  have HB0 := Aside0.mk ((Below.refl w.heap.size w).alloc (Nat.le_refl _) (.cells (exG.flatMap gCs).toArray 36))
  have HG0 := Aside0.mk (goods_in (heap_alloc_new w (.cells (exG.flatMap gCs).toArray 36)) (by decide))
  clear h
  go_enter Tryd.func7, Tryd.ntmps7
  go_wp2_with fail
  refine (make_any (some ⟨w.heap.size, 0, none⟩) 2 exG _ HG0.out (by decide) (fun x hx => by simp only [exG, List.mem_cons, List.not_mem_nil, or_false] at hx; rcases hx with rfl | rfl <;> decide)).mono ?_
  rintro e w1 ⟨hb1, ⟨hbad, _⟩ | ⟨_, g, r, rfl, hT1, _, _⟩⟩
  · exact absurd exG_ok hbad
  have HB1 := Aside0.mk (HB0.out.trans (Below.mono hb1 HB0.out.size))
  have HT1 := Aside0.mk hT1
  clear hb1 hT1 HG0 HB0
  go_wp2_with fail
  have HB2 := Aside0.mk (HB1.out.alloc HB1.out.size (.cells (exL.flatMap lCs).toArray 38))
  have HL2 := Aside0.mk (lots_in (heap_alloc_new w1 (.cells (exL.flatMap lCs).toArray 38)) (by decide))
  have HT2 := Aside0.mk (HT1.out.below ((Below.refl w1.heap.size w1).alloc (Nat.le_refl _) (.cells (exL.flatMap lCs).toArray 38)))
  have HWE := weigh_any (some ⟨w1.heap.size, 0, none⟩) 2 exL HT2.out exG_may HL2.out (by decide) (fun x hx => by simp only [exL, List.mem_cons, List.not_mem_nil, or_false] at hx; rcases hx with rfl | rfl <;> decide)
  rw [exL_w] at HWE
  refine HWE.mono ?_
  clear HWE
  rintro e w2 ⟨rfl, hb2⟩
  have HB3 := Aside0.mk (HB2.out.trans (hb2.mono HB2.out.size))
  clear hb2 HB2 HL2 HT2 HT1 HB1
  have HAP := Aside0.mk (fun (W : World) (hb : Below w.heap.size w W) (a b : Int) => apart_any a b W (HA.out.below hb))
  go_wp2_with fail
  refine (HAP.out _ HB3.out 3 8).mono ?_
  rintro e w3 ⟨rfl, n3, rfl⟩
  rw [ap38]
  have HB4 : Aside0 (Below w.heap.size w (w2.drewN n3)) := ⟨pw_below_drewN HB3.out n3⟩
  clear HB3
  generalize w2.drewN n3 = w4 at HB4 ⊢
  go_wp2_with fail
  refine (HAP.out _ HB4.out 2 8).mono ?_
  rintro e w5 ⟨rfl, n5, rfl⟩
  rw [ap28]
  have HB6 : Aside0 (Below w.heap.size w (w4.drewN n5)) := ⟨pw_below_drewN HB4.out n5⟩
  clear HB4
  generalize w4.drewN n5 = w6 at HB6 ⊢
  have HL6 := Aside0.mk (lots_in (heap_alloc_new w6 (.cells (exJ.flatMap lCs).toArray 38)) (by decide))
  have HB7 := Aside0.mk (HB6.out.alloc HB6.out.size (.cells (exJ.flatMap lCs).toArray 38))
  go_wp2_with fail
  refine (join_any (some ⟨w6.heap.size, 0, none⟩) 1 exJ _ HL6.out (by decide) (fun x hx => by simp only [exJ, List.mem_cons, List.not_mem_nil, or_false] at hx; subst hx; decide) (by decide)).mono ?_
  rintro e w8 ⟨v, rfl, hR, hb8⟩
  have HB8 := Aside0.mk (HB7.out.trans (Below.mono hb8 HB7.out.size))
  obtain ⟨A8, c8, rfl, _, _⟩ := Kd.R_reads hR
  rw [exJ_len]
  clear hR hb8
  go_wp2
  go_ret
  exact ⟨rfl, HB8.out⟩
end Go.Proofs.YtnhbbfbllkefcaaDoor
