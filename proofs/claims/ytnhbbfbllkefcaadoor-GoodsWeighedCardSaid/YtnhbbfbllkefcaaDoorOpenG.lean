/- Arguments opened: rows of goods, of lots. Conditions: none. -/
import Derived.Test.YtnhbbfbllkefcaaDoorTabled
import Derived.Test.YtnhbbfbllkefcaaDoorKnown
import Derived.Deep.Slices
import Derived.Deep.Fields
set_option linter.unusedVariables false
set_option linter.unusedSimpArgs false
set_option linter.unusedSectionVars false
namespace Go.Proofs.YtnhbbfbllkefcaaDoor
open Go.RowKit Go.Proofs.YtnhbbfbllkefcaaDoorW.PrintWords Go.Proofs.YtnhbbfbllkefcaaDoorW.PrintLast Go.Proofs.YtnhbbfbllkefcaaDoorW.PrintMore Go.ChangeShapes Go.WideShapes Go.Deep
open Q

section
variable {H : Type} {enc : TypeId × Value → H} {P : Program} {w : World} {base : Nat} {spare : Nat → Bool} {held : Bool}
theorem open_slice_fields {t e : TypeId} {fs : Array Field} {fuel : Nat} {cs : List Value} {x : DataW H × List MemPlace} (ht : P.underlying t = some (.slice e)) (he : P.underlying e = some (.struct fs))
    (hone : oneCellFields P fs = true) (hC : P.cellsOf e = fs.size) (h : DataW.trod enc P w base spare held fuel t cs = some x) :
    (cs = [.slice none 0 0] ∧ x = (.nil, [])) ∨
    ∃ (a : Addr) (len cap m : Nat) (D : Nat → DataW H) (Pl : Nat → List MemPlace), cs = [.slice (some a) len cap] ∧ base ≤ a.block ∧ len ≤ cap ∧ cap ≤ maxLen ∧ m = (if spare a.block then cap else len) ∧
      x = (.slice ((List.range len).map D) ((List.range (m - len)).map fun j => D (len + j)), MemPlace.row a (m * fs.size) ++ (List.range m).flatMap Pl) ∧
      ∀ i, i < m → ∃ (ys : List (DataW H × List MemPlace)) (n : Nat), D i = .agg (ys.map (·.1)) ∧ Pl i = ys.flatMap (·.2) ∧ ys.length = fs.size ∧
        ∀ (j : Nat) (f : Field), fs[j]? = some f → ∃ (v : Value) (y : DataW H × List MemPlace), w.cell? (a.add (i * fs.size + j)) = some v ∧ ys[j]? = some y ∧ DataW.trod enc P w base spare held n f.type [v] = some y := by
  rcases open_slice ht h with h0 | ⟨a, len, cap, m, n, D, Pl, hcs, hb, hl, hm, hmm, hx, hi⟩
  · exact .inl h0
  · refine .inr ⟨a, len, cap, m, D, Pl, hcs, hb, hl, hm, hmm, by rw [hC] at hx; exact hx, fun i him => ?_⟩
    obtain ⟨cs', hc, ht'⟩ := hi i him
    rw [hC] at hc
    obtain ⟨ys, n', hn', hy, hlen, hyl, hf⟩ := DataW.trod_struct he ht'
    obtain ⟨_, hcl, hat⟩ := World.cells?_some hc
    simp only [Prod.mk.injEq] at hy
    refine ⟨ys, n', hy.1, hy.2, hyl, fun j f hj => ?_⟩
    obtain ⟨ho, hk⟩ := hone_of hone j f hj
    have hjl : j < fs.size := (Array.getElem?_eq_some_iff.1 hj).1
    have hcell := hat j hjl
    have hv : cs'[j]? = some (cs'[j]'(by omega)) := List.getElem?_eq_getElem (by omega)
    have h1 := hf j f hj
    rw [ho, hk] at h1
    have hone' : (cs'.drop j).take 1 = [cs'[j]'(by omega)] := by
      rw [List.drop_eq_getElem_cons (by omega)]
      rfl
    rw [hone'] at h1
    have hys : ys[j]? = some (ys[j]'(by omega)) := List.getElem?_eq_getElem (by omega)
    refine ⟨_, _, ?_, hys, h1.trans hys⟩
    rw [← Go.Deep.add_add, hcell, hv]

theorem weights_mem_all {e : TypeId} : ∀ {ds : List (DataW H)} {d : DataW H}, d ∈ ds → ∀ n ∈ d.weights P e, n ∈ DataW.weightsAll P e ds
  | d0 :: ds, d, hd, n, hn => by
    simp only [DataW.weightsAll, List.mem_append]
    rcases List.mem_cons.1 hd with rfl | hd
    · exact Or.inl hn
    · exact Or.inr (weights_mem_all hd n hn)
  | [], _, hd, _, _ => by simp at hd

theorem sized_field_text {ts : List TypeId} {ds : List (DataW H)} (h : (DataW.weightsEach P ts ds).all (· ≤ reachBytes) = true) {j : Nat} {t e : TypeId} {elems spare : List (DataW H)} (ht : ts[j]? = some t) (hd : ds[j]? = some (.slice elems spare)) (hu : P.underlying t = some (.slice e))
    {fs : Array Field} (he : P.underlying e = some (.struct fs)) {parts : List (DataW H)} (hm : DataW.agg parts ∈ elems) {k : Nat} {f : Field} (hf : fs[k]? = some f) {bytes : List UInt8} (hp : parts[k]? = some (.lit (.string bytes))) : bytes.length ≤ reachBytes := by
  have h1 : bytes.length ∈ (DataW.agg parts).weights P e := by
    simp only [DataW.weights, he]
    refine DataW.weights_mem_each (j := k) (t := f.type) (by simp [hf]) hp _ (by simp [DataW.weights])
  have h2 : bytes.length ∈ (DataW.slice elems spare).weights P t := by
    simp only [DataW.weights, hu, List.mem_cons, List.mem_append]
    exact Or.inr (Or.inl (weights_mem_all hm _ h1))
  have := List.all_eq_true.1 h _ (DataW.weights_mem_each ht hd _ h2)
  simpa using this
end


abbrev csgoods (h : S36) : List Value := [.string h.f0, .int .i64 h.f1, .int .i64 h.f2, .int .i64 h.f3]
theorem open_goods {H : Type} {enc : TypeId × Value → H} {W : World} {base : Nat} {spare : Nat → Bool} {held : Bool} {a : Option Addr} {len cap : Nat} {d : DataW H} {ps : List MemPlace} {ts : List TypeId} {ds : List (DataW H)} {j : Nat}
    (hsz : (DataW.weightsEach Tryd.prog ts ds).all (· ≤ reachBytes) = true) (ht : ts[j]? = some 24) (hd : ds[j]? = some d) (h : DataW.Trod enc Tryd.prog W base spare held 24 (.slice a len cap) d ps) :
    ∃ l : List S36, len = l.length ∧ len ≤ cap ∧ cap ≤ maxLen ∧ Kd.C k36 W a len l ∧ SizedG l := by
  obtain ⟨fuel, hf⟩ := h
  rcases open_slice_fields Tryd.underlying24 Tryd.underlying36 (by kernel_rfl) (by kernel_rfl) hf with ⟨hcs, _⟩ | ⟨x, l, c, m, D, Pl, hcs, _, hl, hcm, hmm, hx, hi⟩
  · simp [Value.cells] at hcs
    obtain ⟨rfl, rfl, rfl⟩ := hcs
    exact ⟨[], rfl, Nat.le_refl _, by unfold maxLen; omega, ⟨rfl, by omega, fun h => absurd h (by omega)⟩, by simp [SizedG]⟩
  · simp [Value.cells] at hcs
    obtain ⟨rfl, rfl, rfl⟩ := hcs
    have hlm : len ≤ m := by rw [hmm]; split <;> omega
    obtain ⟨hdx, _⟩ := Prod.mk.inj hx
    rw [hdx] at hd
    have hQ : ∀ i, ∃ h : S36, i < len → (∀ k u, (csgoods h)[k]? = some u → W.cell? (x.add (i * 4 + k)) = some u) ∧ h.f0.size ≤ 140737488351232 := by
      intro i
      by_cases hil : i < len
      · obtain ⟨ys, n, hD, _, _, hcell⟩ := hi i (by omega)
        have hmem : DataW.agg (ys.map (·.1)) ∈ (List.range len).map D := List.mem_map.2 ⟨i, List.mem_range.2 hil, hD⟩
        obtain ⟨v0, y0, c0, e0, t0⟩ := hcell 0 _ rfl
        obtain ⟨v1, y1, c1, e1, t1⟩ := hcell 1 _ rfl
        obtain ⟨v2, y2, c2, e2, t2⟩ := hcell 2 _ rfl
        obtain ⟨v3, y3, c3, e3, t3⟩ := hcell 3 _ rfl
        obtain ⟨n0, q0, rfl, z0⟩ := DataW.trod_string Tryd.underlying9 t0
        obtain rfl : v0 = .string n0 := by simpa using q0
        obtain ⟨n1, q1, rfl, z1⟩ := DataW.trod_int Tryd.underlying3 t1
        obtain rfl : v1 = .int .i64 n1 := by simpa using q1
        obtain ⟨n2, q2, rfl, z2⟩ := DataW.trod_int Tryd.underlying3 t2
        obtain rfl : v2 = .int .i64 n2 := by simpa using q2
        obtain ⟨n3, q3, rfl, z3⟩ := DataW.trod_int Tryd.underlying3 t3
        obtain rfl : v3 = .int .i64 n3 := by simpa using q3
        have b0 := sized_field_text hsz ht hd Tryd.underlying24 Tryd.underlying36 hmem (k := 0) rfl (bytes := n0.data.toList) (by simp [e0])
        rw [Array.length_toList] at b0
        refine ⟨⟨n0, n1, n2, n3⟩, fun _ => ⟨fun k u hk => ?_, b0⟩⟩
        rcases k with _ | _ | _ | _ | k
        · simp [csgoods] at hk; subst hk; exact c0
        · simp [csgoods] at hk; subst hk; exact c1
        · simp [csgoods] at hk; subst hk; exact c2
        · simp [csgoods] at hk; subst hk; exact c3
        · simp [csgoods] at hk
      · exact ⟨z36, fun h => absurd h hil⟩
    obtain ⟨g, hg⟩ := Classical.axiomOfChoice hQ
    refine ⟨(List.range len).map g, by simp, hl, hcm, ⟨by simp, by unfold maxLen at hcm; omega, fun _ => ⟨x, rfl, fun q p hp => ?_⟩⟩, ?_⟩
    · obtain ⟨hlt, e⟩ := List.getElem?_eq_some_iff.1 hp
      simp at hlt e
      subst e
      exact ⟨csgoods (g q), rfl, k36_mk _ _, (hg q hlt).1⟩
    · intro h hh
      obtain ⟨i, hi2, rfl⟩ := List.mem_map.1 hh
      exact (hg i (List.mem_range.1 hi2)).2
abbrev cslots (h : S38) : List Value := [.string h.f0, .int .i64 h.f1]
theorem open_lots {H : Type} {enc : TypeId × Value → H} {W : World} {base : Nat} {spare : Nat → Bool} {held : Bool} {a : Option Addr} {len cap : Nat} {d : DataW H} {ps : List MemPlace} {ts : List TypeId} {ds : List (DataW H)} {j : Nat}
    (hsz : (DataW.weightsEach Tryd.prog ts ds).all (· ≤ reachBytes) = true) (ht : ts[j]? = some 25) (hd : ds[j]? = some d) (h : DataW.Trod enc Tryd.prog W base spare held 25 (.slice a len cap) d ps) :
    ∃ l : List S38, len = l.length ∧ len ≤ cap ∧ cap ≤ maxLen ∧ Kd.C k38 W a len l ∧ SizedL l := by
  obtain ⟨fuel, hf⟩ := h
  rcases open_slice_fields Tryd.underlying25 Tryd.underlying38 (by kernel_rfl) (by kernel_rfl) hf with ⟨hcs, _⟩ | ⟨x, l, c, m, D, Pl, hcs, _, hl, hcm, hmm, hx, hi⟩
  · simp [Value.cells] at hcs
    obtain ⟨rfl, rfl, rfl⟩ := hcs
    exact ⟨[], rfl, Nat.le_refl _, by unfold maxLen; omega, ⟨rfl, by omega, fun h => absurd h (by omega)⟩, by simp [SizedL]⟩
  · simp [Value.cells] at hcs
    obtain ⟨rfl, rfl, rfl⟩ := hcs
    have hlm : len ≤ m := by rw [hmm]; split <;> omega
    obtain ⟨hdx, _⟩ := Prod.mk.inj hx
    rw [hdx] at hd
    have hQ : ∀ i, ∃ h : S38, i < len → (∀ k u, (cslots h)[k]? = some u → W.cell? (x.add (i * 2 + k)) = some u) ∧ h.f0.size ≤ 140737488351232 := by
      intro i
      by_cases hil : i < len
      · obtain ⟨ys, n, hD, _, _, hcell⟩ := hi i (by omega)
        have hmem : DataW.agg (ys.map (·.1)) ∈ (List.range len).map D := List.mem_map.2 ⟨i, List.mem_range.2 hil, hD⟩
        obtain ⟨v0, y0, c0, e0, t0⟩ := hcell 0 _ rfl
        obtain ⟨v1, y1, c1, e1, t1⟩ := hcell 1 _ rfl
        obtain ⟨n0, q0, rfl, z0⟩ := DataW.trod_string Tryd.underlying9 t0
        obtain rfl : v0 = .string n0 := by simpa using q0
        obtain ⟨n1, q1, rfl, z1⟩ := DataW.trod_int Tryd.underlying3 t1
        obtain rfl : v1 = .int .i64 n1 := by simpa using q1
        have b0 := sized_field_text hsz ht hd Tryd.underlying25 Tryd.underlying38 hmem (k := 0) rfl (bytes := n0.data.toList) (by simp [e0])
        rw [Array.length_toList] at b0
        refine ⟨⟨n0, n1⟩, fun _ => ⟨fun k u hk => ?_, b0⟩⟩
        rcases k with _ | _ | k
        · simp [cslots] at hk; subst hk; exact c0
        · simp [cslots] at hk; subst hk; exact c1
        · simp [cslots] at hk
      · exact ⟨z38, fun h => absurd h hil⟩
    obtain ⟨g, hg⟩ := Classical.axiomOfChoice hQ
    refine ⟨(List.range len).map g, by simp, hl, hcm, ⟨by simp, by unfold maxLen at hcm; omega, fun _ => ⟨x, rfl, fun q p hp => ?_⟩⟩, ?_⟩
    · obtain ⟨hlt, e⟩ := List.getElem?_eq_some_iff.1 hp
      simp at hlt e
      subst e
      exact ⟨cslots (g q), rfl, k38_mk _ _, (hg q hlt).1⟩
    · intro h hh
      obtain ⟨i, hi2, rfl⟩ := List.mem_map.1 hh
      exact (hg i (List.mem_range.1 hi2)).2
end Go.Proofs.YtnhbbfbllkefcaaDoor
