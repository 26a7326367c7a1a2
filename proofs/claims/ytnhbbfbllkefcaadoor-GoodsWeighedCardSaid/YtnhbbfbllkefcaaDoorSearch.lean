/- The library's search by a predicate, over rows of goods and of lots. Conditions: the predicate's own contract. -/
import Derived.Test.YtnhbbfbllkefcaaDoorMark
set_option linter.unusedVariables false
set_option linter.unusedSimpArgs false
set_option linter.unusedSectionVars false
namespace Go.Proofs.YtnhbbfbllkefcaaDoor
open Go.RowKit Go.Proofs.YtnhbbfbllkefcaaDoorW.PrintWords Go.Proofs.YtnhbbfbllkefcaaDoorW.PrintLast Go.Proofs.YtnhbbfbllkefcaaDoorW.PrintMore
open Q


abbrev vG (x : S36) : Value := .agg #[.string x.f0, .int .i64 x.f1, .int .i64 x.f2, .int .i64 x.f3]
/-- What is asked of a predicate that is handed to the library: at each element of the row, wherever all that lay lies. -/
def PaysG (f : Nat) (cap : Array Value) (p : S36 → Bool) (l : List S36) (w : World) : Prop := ∀ (W : World) (x : S36), x ∈ l → Below w.heap.size w W → Calls Tryd.prog f (#[vG x] ++ cap) W fun e W' => e = .returned (.bool (p x)) ∧ Below W.heap.size W W'
theorem rd_G {l : List S36} {i : Nat} (h : i < l.length) : l.drop i = rd_T36 l (i : Int) :: l.drop (i + 1) := by
  rw [List.drop_eq_getElem_cons h]
  unfold rd_T36
  rw [Int.toNat_natCast, List.getD_eq_getElem?_getD, List.getElem?_eq_getElem h]
  rfl
theorem get_G {l : List S36} {i : Nat} (h : i < l.length) : l[i]? = some (rd_T36 l (i : Int)) := by
  have := congrArg List.head? (rd_G h)
  simpa [List.head?_drop] using this
set_option maxRecDepth 100000 in
theorem idxG_any (f : Nat) (cap : Array Value) (eg : ∀ args W, (callFunc f args).run Tryd.prog W = .ok (.enter f args) W) (p : S36 → Bool) (A : Option Addr) (c : Nat) (l : List S36) (w : World) (hr : Kd.C k36 w A l.length l) (hc : l.length ≤ c) (hp : PaysG f cap p l w) :
    Calls Tryd.prog 39 #[.slice A l.length c, .func (.func f) #[] cap] w fun e w' => (∃ n : Int, e = .returned (.int .i64 n) ∧ decide (0 ≤ n) = l.any p) ∧ Below w.heap.size w w' := by
  have hu36 := Tryd.underlying36
  have HR := Aside0.mk hr
  have HC := Aside0.mk hc
  have HP := Aside0.mk hp
  have hl48 : l.length ≤ maxLen := hr.2.1
  unfold maxLen at hl48
  obtain ⟨res, hres⟩ : ∃ res, res = l.any p := ⟨_, rfl⟩
  rw [← hres]
  have HRES := Aside0.mk hres
  clear hr hc hp hres
  go_enter Tryd.func39, Tryd.ntmps39
  go_wp2_with fail
  go_loopg [8] (l.length + 1) (fun kq v wr => ∃ i : Nat, v = .int .i64 i ∧ i ≤ l.length ∧ l.length < i + kq ∧ Aside0 ((l.drop i).any p = res) ∧ Aside0 (Below w.heap.size w wr))
  case atStart => exact ⟨0, rfl, Nat.zero_le _, by omega, ⟨by rw [HRES.out]; rfl⟩, ⟨Below.refl _ _⟩⟩
  case round =>
    obtain ⟨i, rfl, hi, hk, HI, HB⟩ := hrel
    by_cases hlt : i < l.length
    · obtain ⟨ad, rfl, y0, y1, y2, y3⟩ := at_T36 (Kd.C_below HR.out HB.out) (i : Int) (by omega) (by omega)
      rw [Int.toNat_natCast] at y0 y1 y2 y3
      have hdr := rd_G hlt
      have hg := get_G hlt
      obtain ⟨ev, hev⟩ : ∃ ev, ev = rd_T36 l (i : Int) := ⟨_, rfl⟩
      rw [← hev] at y0 y1 y2 y3 hdr hg
      have HST : Aside0 (res = (p ev || (l.drop (i + 1)).any p)) := ⟨by rw [← HI.out, hdr, List.any_cons]⟩
      have HCL := Aside0.mk (HP.out wr ev (List.mem_of_getElem? hg) HB.out)
      obtain ⟨b, hb⟩ : ∃ b, b = p ev := ⟨_, rfl⟩
      rw [← hb] at HST HCL
      have hic : i < c := by have := HC.out; omega
      have hcf := eg
      clear hev hdr hg hb
      go_wp2_with fail
      refine HCL.out.mono ?_
      rintro e w2 ⟨rfl, hb2⟩
      have HB2 : Aside0 (Below w.heap.size w w2) := ⟨HB.out.trans (hb2.mono HB.out.size)⟩
      clear hb2 hcf
      cases b with
      | true =>
        go_wp2
        go_ret
        exact ⟨⟨_, rfl, by rw [HST.out]; simp⟩, HB2.out⟩
      | false =>
        go_wp2
        go_roundg (gk - 1)
        case measure => omega
        case rel => exact ⟨i + 1, rfl, by omega, by omega, ⟨by rw [HST.out]; rfl⟩, HB2⟩
    · have HA : Aside0 (res = false) := ⟨by
        have h9 : i = l.length := by omega
        rw [← HI.out, h9, List.drop_length]
        rfl⟩
      go_wp2
      go_ret
      exact ⟨⟨_, rfl, by rw [HA.out]; rfl⟩, HB.out⟩
theorem hasG_any (f : Nat) (cap : Array Value) (eg : ∀ args W, (callFunc f args).run Tryd.prog W = .ok (.enter f args) W) (p : S36 → Bool) (A : Option Addr) (c : Nat) (l : List S36) (w : World) (hr : Kd.C k36 w A l.length l) (hc : l.length ≤ c) (hp : PaysG f cap p l w) :
    Calls Tryd.prog 23 #[.slice A l.length c, .func (.func f) #[] cap] w fun e w' => e = .returned (.bool (l.any p)) ∧ Below w.heap.size w w' := by
  have HI := Aside0.mk (idxG_any f cap eg p A c l w hr hc hp)
  obtain ⟨res, hres⟩ : ∃ res, res = l.any p := ⟨_, rfl⟩
  rw [← hres] at HI ⊢
  clear hr hc hp hres
  go_enter Tryd.func23, Tryd.ntmps23
  go_wp2_with fail
  refine HI.out.mono ?_
  rintro e w2 ⟨⟨n, rfl, hn⟩, hb2⟩
  have HB2 := Aside0.mk hb2
  have HN := Aside0.mk hn
  clear hb2 hn
  go_wp2
  go_ret
  exact ⟨by rw [HN.out]; rfl, HB2.out⟩

abbrev vL (x : S38) : Value := .agg #[.string x.f0, .int .i64 x.f1]
/-- What is asked of a predicate that is handed to the library: at each element of the row, wherever all that lay lies. -/
def PaysL (f : Nat) (cap : Array Value) (p : S38 → Bool) (l : List S38) (w : World) : Prop := ∀ (W : World) (x : S38), x ∈ l → Below w.heap.size w W → Calls Tryd.prog f (#[vL x] ++ cap) W fun e W' => e = .returned (.bool (p x)) ∧ Below W.heap.size W W'
theorem rd_L {l : List S38} {i : Nat} (h : i < l.length) : l.drop i = rd_T38 l (i : Int) :: l.drop (i + 1) := by
  rw [List.drop_eq_getElem_cons h]
  unfold rd_T38
  rw [Int.toNat_natCast, List.getD_eq_getElem?_getD, List.getElem?_eq_getElem h]
  rfl
theorem get_L {l : List S38} {i : Nat} (h : i < l.length) : l[i]? = some (rd_T38 l (i : Int)) := by
  have := congrArg List.head? (rd_L h)
  simpa [List.head?_drop] using this
set_option maxRecDepth 100000 in
theorem idxL_any (f : Nat) (cap : Array Value) (eg : ∀ args W, (callFunc f args).run Tryd.prog W = .ok (.enter f args) W) (p : S38 → Bool) (A : Option Addr) (c : Nat) (l : List S38) (w : World) (hr : Kd.C k38 w A l.length l) (hc : l.length ≤ c) (hp : PaysL f cap p l w) :
    Calls Tryd.prog 59 #[.slice A l.length c, .func (.func f) #[] cap] w fun e w' => (∃ n : Int, e = .returned (.int .i64 n) ∧ decide (0 ≤ n) = l.any p) ∧ Below w.heap.size w w' := by
  have hu38 := Tryd.underlying38
  have HR := Aside0.mk hr
  have HC := Aside0.mk hc
  have HP := Aside0.mk hp
  have hl48 : l.length ≤ maxLen := hr.2.1
  unfold maxLen at hl48
  obtain ⟨res, hres⟩ : ∃ res, res = l.any p := ⟨_, rfl⟩
  rw [← hres]
  have HRES := Aside0.mk hres
  clear hr hc hp hres
  go_enter Tryd.func59, Tryd.ntmps59
  go_wp2_with fail
  go_loopg [8] (l.length + 1) (fun kq v wr => ∃ i : Nat, v = .int .i64 i ∧ i ≤ l.length ∧ l.length < i + kq ∧ Aside0 ((l.drop i).any p = res) ∧ Aside0 (Below w.heap.size w wr))
  case atStart => exact ⟨0, rfl, Nat.zero_le _, by omega, ⟨by rw [HRES.out]; rfl⟩, ⟨Below.refl _ _⟩⟩
  case round =>
    obtain ⟨i, rfl, hi, hk, HI, HB⟩ := hrel
    by_cases hlt : i < l.length
    · obtain ⟨ad, rfl, y0, y1⟩ := at_T38 (Kd.C_below HR.out HB.out) (i : Int) (by omega) (by omega)
      rw [Int.toNat_natCast] at y0 y1
      have hdr := rd_L hlt
      have hg := get_L hlt
      obtain ⟨ev, hev⟩ : ∃ ev, ev = rd_T38 l (i : Int) := ⟨_, rfl⟩
      rw [← hev] at y0 y1 hdr hg
      have HST : Aside0 (res = (p ev || (l.drop (i + 1)).any p)) := ⟨by rw [← HI.out, hdr, List.any_cons]⟩
      have HCL := Aside0.mk (HP.out wr ev (List.mem_of_getElem? hg) HB.out)
      obtain ⟨b, hb⟩ : ∃ b, b = p ev := ⟨_, rfl⟩
      rw [← hb] at HST HCL
      have hic : i < c := by have := HC.out; omega
      have hcf := eg
      clear hev hdr hg hb
      go_wp2_with fail
      refine HCL.out.mono ?_
      rintro e w2 ⟨rfl, hb2⟩
      have HB2 : Aside0 (Below w.heap.size w w2) := ⟨HB.out.trans (hb2.mono HB.out.size)⟩
      clear hb2 hcf
      cases b with
      | true =>
        go_wp2
        go_ret
        exact ⟨⟨_, rfl, by rw [HST.out]; simp⟩, HB2.out⟩
      | false =>
        go_wp2
        go_roundg (gk - 1)
        case measure => omega
        case rel => exact ⟨i + 1, rfl, by omega, by omega, ⟨by rw [HST.out]; rfl⟩, HB2⟩
    · have HA : Aside0 (res = false) := ⟨by
        have h9 : i = l.length := by omega
        rw [← HI.out, h9, List.drop_length]
        rfl⟩
      go_wp2
      go_ret
      exact ⟨⟨_, rfl, by rw [HA.out]; rfl⟩, HB.out⟩
theorem hasL_any (f : Nat) (cap : Array Value) (eg : ∀ args W, (callFunc f args).run Tryd.prog W = .ok (.enter f args) W) (p : S38 → Bool) (A : Option Addr) (c : Nat) (l : List S38) (w : World) (hr : Kd.C k38 w A l.length l) (hc : l.length ≤ c) (hp : PaysL f cap p l w) :
    Calls Tryd.prog 49 #[.slice A l.length c, .func (.func f) #[] cap] w fun e w' => e = .returned (.bool (l.any p)) ∧ Below w.heap.size w w' := by
  have HI := Aside0.mk (idxL_any f cap eg p A c l w hr hc hp)
  obtain ⟨res, hres⟩ : ∃ res, res = l.any p := ⟨_, rfl⟩
  rw [← hres] at HI ⊢
  clear hr hc hp hres
  go_enter Tryd.func49, Tryd.ntmps49
  go_wp2_with fail
  refine HI.out.mono ?_
  rintro e w2 ⟨⟨n, rfl, hn⟩, hb2⟩
  have HB2 := Aside0.mk hb2
  have HN := Aside0.mk hn
  clear hb2 hn
  go_wp2
  go_ret
  exact ⟨by rw [HN.out]; rfl, HB2.out⟩

end Go.Proofs.YtnhbbfbllkefcaaDoor
