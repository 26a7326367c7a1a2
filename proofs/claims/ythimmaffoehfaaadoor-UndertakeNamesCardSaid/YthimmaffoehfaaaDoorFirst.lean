/- The first look that is wrong, of a row of looks. Conditions: rows of at most a hundred looks, of which none writes. -/
import Derived.Test.YthimmaffoehfaaaDoorLook5
set_option linter.unusedVariables false
set_option linter.unusedSimpArgs false
set_option linter.unusedSectionVars false
namespace Go.Proofs.YthimmaffoehfaaaDoor
open Go.RowKit Go.Proofs.YthimmaffoehfaaaDoorW.PrintWords Go.Proofs.YthimmaffoehfaaaDoorW.PrintLast Go.Proofs.YthimmaffoehfaaaDoorW.PrintMore
open Q

/-- A look: its fault, its function, what that has caught, and what it tells. -/
structure Lk where
  er : Int
  fn : Nat
  cs : Array Value
  wr : Bool
def firstE (l : List Lk) : Int := ((l.find? (·.wr)).map (·.er)).getD 0
theorem firstE_cons (x : Lk) (l : List Lk) : firstE (x :: l) = if x.wr = true then x.er else firstE l := by
  unfold firstE
  cases h : x.wr <;> simp [h]
def lkCells (l : List Lk) : Array Value := (l.flatMap fun x => [.int .i64 x.er, .func (.func x.fn) #[] x.cs]).toArray
theorem lk_cell {w : World} {g : Nat} {l : List Lk} (h : w.heap[g]? = some (.cells (lkCells l) 79)) (i : Nat) (x : Lk) (hx : l[i]? = some x) : w.cell? ⟨g, i * 2, none⟩ = some (.int .i64 x.er) ∧ w.cell? ⟨g, i * 2 + 1, none⟩ = some (.func (.func x.fn) #[] x.cs) := by
  have key : ∀ (l : List Lk) (i : Nat), l[i]? = some x → (l.flatMap fun x => [Value.int .i64 x.er, .func (.func x.fn) #[] x.cs])[i * 2]? = some (.int .i64 x.er) ∧ (l.flatMap fun x => [Value.int .i64 x.er, .func (.func x.fn) #[] x.cs])[i * 2 + 1]? = some (.func (.func x.fn) #[] x.cs) := by
    intro l
    induction l with
    | nil => intro i h; simp at h
    | cons y l ih =>
      intro i h
      cases i with
      | zero =>
        have : y = x := by simpa using h
        subst this
        exact ⟨rfl, rfl⟩
      | succ i =>
        have := ih i (by simpa using h)
        rw [show (i + 1) * 2 = i * 2 + 2 by omega]
        simpa [List.flatMap_cons] using this
  simp only [World.cell?, h, lkCells]
  obtain ⟨h1, h2⟩ := key l i hx
  exact ⟨by simpa using h1, by simpa using h2⟩

set_option maxRecDepth 100000 in
theorem first_any (g : Nat) (c : Nat) (l : List Lk) (w : World) (hb : w.heap[g]? = some (.cells (lkCells l) 79)) (hc : l.length ≤ c) (hl : l.length ≤ 100)
    (hent : ∀ x ∈ l, ∀ args W, (callFunc x.fn args).run Tryd.prog W = .ok (.enter x.fn args) W)
    (hcall : ∀ (i : Nat) (x : Lk), l[i]? = some x → (∀ j y, j < i → l[j]? = some y → y.wr = false) → ∀ W, Below w.heap.size w W → Calls Tryd.prog x.fn x.cs W fun e w' => e = .returned (.bool x.wr) ∧ Below W.heap.size W w') :
    Calls Tryd.prog 43 #[.slice (some ⟨g, 0, none⟩) l.length c] w fun e w' => e = .returned (.int .i64 (firstE l)) ∧ Below w.heap.size w w' := by
  have HB0 := Aside0.mk hb
  have HC := Aside0.mk hc
  have HL := Aside0.mk hl
  have HCALL := Aside0.mk hcall
  have hgl := blk_lt hb
  obtain ⟨res, hres⟩ : ∃ res, res = firstE l := ⟨_, rfl⟩
  rw [← hres]
  have HRES := Aside0.mk hres
  have HENT := Aside0.mk hent
  clear hb hc hl hres hcall hent
  go_enter Tryd.func43, Tryd.ntmps43
  go_wp2_with fail
  go_loopg [7] (l.length + 1) (fun kq v wr => ∃ i : Nat, v = .int .i64 i ∧ i ≤ l.length ∧ l.length < i + kq ∧ Aside0 (firstE (l.drop i) = res) ∧ Aside0 (∀ j y, j < i → l[j]? = some y → y.wr = false) ∧ Aside0 (Below w.heap.size w wr))
  case atStart => exact ⟨0, rfl, Nat.zero_le _, by omega, ⟨by rw [HRES.out]; rfl⟩, ⟨fun j y h => by omega⟩, ⟨Below.refl _ _⟩⟩
  case round =>
    obtain ⟨i, rfl, hi, hk, HI, HN, HB⟩ := hrel
    by_cases hlt : i < l.length
    · obtain ⟨x, hx⟩ : ∃ x, l[i]? = some x := ⟨_, List.getElem?_eq_getElem hlt⟩
      have hz := HB.out.size
      have hblk : wr.heap[g]? = some (.cells (lkCells l) 79) := (HB.out.block _ hgl).trans HB0.out
      obtain ⟨q0, q1⟩ := lk_cell hblk i x hx
      have hg2 : g < wr.heap.size := by omega
      have HST : Aside0 (res = if x.wr = true then x.er else firstE (l.drop (i + 1))) := ⟨by
        rw [← HI.out, List.drop_eq_getElem_cons hlt, firstE_cons]
        have : l[i] = x := by
          have := List.getElem?_eq_getElem hlt
          rw [hx] at this
          injection this with this
          exact this.symm
        rw [this]⟩
      have hcl := Aside0.mk (HCALL.out i x hx HN.out)
      have HX := Aside0.mk hx
      obtain ⟨er, fn, cs, b⟩ := x
      simp only at q0 q1
      clear hblk hx
      have hcf : ∀ W, (callFunc fn cs).run Tryd.prog W = .ok (.enter fn cs) W := fun W => HENT.out _ (List.mem_of_getElem? HX.out) cs W
      have HB2 : Aside0 (Below w.heap.size w (wr.alloc (.cells #[.int .i64 er, .func (.func fn) #[] cs] 79))) := ⟨HB.out.alloc hz _⟩
      go_wp2_with fail
      refine (hcl.out _ HB2.out).mono ?_
      rintro e w2 ⟨rfl, hb2⟩
      have HB3 : Aside0 (Below w.heap.size w w2) := ⟨HB2.out.trans (hb2.mono HB2.out.size)⟩
      have hh : w2.heap[wr.heap.size]? = some (.cells #[.int .i64 er, .func (.func fn) #[] cs] 79) := (hb2.block _ (by simp)).trans (heap_alloc_new _ _)
      have c0 : w2.cell? ⟨wr.heap.size, 0, none⟩ = some (.int .i64 er) := by simp [World.cell?, hh]
      clear hb2 hh hcf
      cases b with
      | true =>
        go_wp2
        go_ret
        exact ⟨by rw [HST.out]; rfl, HB3.out⟩
      | false =>
        go_wp2
        go_roundg (gk - 1)
        case measure => omega
        case rel =>
          refine ⟨i + 1, by rw [wrap_one (by omega) (by have := HL.out; omega)]; rfl, by omega, by omega, ⟨by rw [HST.out]; rfl⟩, ⟨fun j y hj hy => ?_⟩, HB3⟩
          by_cases hji : j < i
          · exact HN.out j y hji hy
          · obtain rfl : j = i := by omega
            rw [HX.out] at hy
            injection hy with hy
            rw [← hy]
    · have HA : Aside0 (res = 0) := ⟨by
        have h9 : i = l.length := by omega
        rw [← HI.out, h9, List.drop_length]
        rfl⟩
      go_wp2
      go_ret
      exact ⟨by rw [HA.out]; rfl, HB.out⟩
end Go.Proofs.YthimmaffoehfaaaDoor
