/- Arguments opened: the terms of a credit, a row of events. Conditions: none. -/
import Derived.Test.YthimmaffoehfaaaPureU
import Derived.Deep.Slices
import Derived.Deep.Fields
import Derived.ChangeSame
import Derived.SizedLaws
import Derived.ProofKit
import Derived.OpenShut
import Derived.ShutString
set_option linter.unusedVariables false
set_option linter.unusedSimpArgs false
set_option linter.unusedSectionVars false
namespace Go.Proofs.Ythimmaffoehfaaa
open Go.RowKit Go.Proofs.YthimmaffoehfaaaW.PrintWords Go.Proofs.YthimmaffoehfaaaW.PrintLast Go.Proofs.YthimmaffoehfaaaW.PrintMore Go.ChangeShapes Go.WideShapes Go.Deep
open Q

section
variable {H : Type} {enc : TypeId × Value → H} {P : Program} {w : World} {base : Nat} {spare : Nat → Bool} {held : Bool}
theorem open_slice_fields {t e : TypeId} {fs : Array Field} {fuel : Nat} {cs : List Value} {x : DataW H × List MemPlace} (ht : P.underlying t = some (.slice e)) (he : P.underlying e = some (.struct fs))
    (hone : oneCellFields P fs = true) (hC : P.cellsOf e = fs.size) (h : DataW.trod enc P w base spare held fuel t cs = some x) :
    (cs = [.slice none 0 0] ∧ x = (.nil, [])) ∨
    ∃ (a : Addr) (len cap m : Nat) (D : Nat → DataW H) (Pl : Nat → List MemPlace), cs = [.slice (some a) len cap] ∧ base ≤ a.block ∧ len ≤ cap ∧ cap ≤ maxLen ∧ m = (if spare a.block then cap else len) ∧
      x = (.slice ((List.range len).map D) ((List.range (m - len)).map fun j => D (len + j)), MemPlace.row a (m * fs.size) ++ (List.range m).flatMap Pl) ∧
      ∀ i, i < m → ∃ (ys : List (DataW H × List MemPlace)) (n : Nat), D i = .agg (ys.map (·.1)) ∧ Pl i = ys.flatMap (·.2) ∧ ys.length = fs.size ∧
        ∀ (j : Nat) (f : Field), fs[j]? = some f → ∃ (v : Value) (y : DataW H × List MemPlace), w.cell? (a.add (i * fs.size + j)) = some v ∧ ys[j]? = some y ∧ DataW.trod enc P w base spare held n f.type [v] = some y := by
  rcases open_slice ht h with h0 | ⟨a, len, cap, m, n, D, Pl, hcs, hb, hl, hm, hmm, hx, hi⟩
  · exact .inl h0
  · refine .inr ⟨a, len, cap, m, D, Pl, hcs, hb, hl, hm, hmm, by rw [hC] at hx; exact hx, fun i him => ?_⟩
    obtain ⟨cs', hc, ht'⟩ := hi i him
    rw [hC] at hc
    obtain ⟨ys, n', hn', hy, hlen, hyl, hf⟩ := DataW.trod_struct he ht'
    obtain ⟨_, hcl, hat⟩ := World.cells?_some hc
    simp only [Prod.mk.injEq] at hy
    refine ⟨ys, n', hy.1, hy.2, hyl, fun j f hj => ?_⟩
    obtain ⟨ho, hk⟩ := hone_of hone j f hj
    have hjl : j < fs.size := (Array.getElem?_eq_some_iff.1 hj).1
    have hcell := hat j hjl
    have hv : cs'[j]? = some (cs'[j]'(by omega)) := List.getElem?_eq_getElem (by omega)
    have h1 := hf j f hj
    rw [ho, hk] at h1
    have hone' : (cs'.drop j).take 1 = [cs'[j]'(by omega)] := by
      rw [List.drop_eq_getElem_cons (by omega)]
      rfl
    rw [hone'] at h1
    have hys : ys[j]? = some (ys[j]'(by omega)) := List.getElem?_eq_getElem (by omega)
    refine ⟨_, _, ?_, hys, h1.trans hys⟩
    rw [← Go.Deep.add_add, hcell, hv]

theorem weights_mem_all {e : TypeId} : ∀ {ds : List (DataW H)} {d : DataW H}, d ∈ ds → ∀ n ∈ d.weights P e, n ∈ DataW.weightsAll P e ds
  | d0 :: ds, d, hd, n, hn => by
    simp only [DataW.weightsAll, List.mem_append]
    rcases List.mem_cons.1 hd with rfl | hd
    · exact Or.inl hn
    · exact Or.inr (weights_mem_all hd n hn)
  | [], _, hd, _, _ => by simp at hd

theorem sized_field_text {ts : List TypeId} {ds : List (DataW H)} (h : (DataW.weightsEach P ts ds).all (· ≤ reachBytes) = true) {j : Nat} {t e : TypeId} {elems spare : List (DataW H)} (ht : ts[j]? = some t) (hd : ds[j]? = some (.slice elems spare)) (hu : P.underlying t = some (.slice e))
    {fs : Array Field} (he : P.underlying e = some (.struct fs)) {parts : List (DataW H)} (hm : DataW.agg parts ∈ elems) {k : Nat} {f : Field} (hf : fs[k]? = some f) {bytes : List UInt8} (hp : parts[k]? = some (.lit (.string bytes))) : bytes.length ≤ reachBytes := by
  have h1 : bytes.length ∈ (DataW.agg parts).weights P e := by
    simp only [DataW.weights, he]
    refine DataW.weights_mem_each (j := k) (t := f.type) (by simp [hf]) hp _ (by simp [DataW.weights])
  have h2 : bytes.length ∈ (DataW.slice elems spare).weights P t := by
    simp only [DataW.weights, hu, List.mem_cons, List.mem_append]
    exact Or.inr (Or.inl (weights_mem_all hm _ h1))
  have := List.all_eq_true.1 h _ (DataW.weights_mem_each ht hd _ h2)
  simpa using this
end


section
variable {H : Type} {enc : TypeId × Value → H} {P : Program} {w : World} {base : Nat} {spare : Nat → Bool} {held : Bool}
theorem sized_agg_text {ts : List TypeId} {ds : List (DataW H)} (h : (DataW.weightsEach P ts ds).all (· ≤ reachBytes) = true) {j : Nat} {t : TypeId} {parts : List (DataW H)} (ht : ts[j]? = some t) (hd : ds[j]? = some (.agg parts))
    {fs : Array Field} (he : P.underlying t = some (.struct fs)) {k : Nat} {f : Field} (hf : fs[k]? = some f) {bytes : List UInt8} (hp : parts[k]? = some (.lit (.string bytes))) : bytes.length ≤ reachBytes := by
  have h1 : bytes.length ∈ (DataW.agg parts).weights P t := by
    simp only [DataW.weights, he]
    refine DataW.weights_mem_each (j := k) (t := f.type) (by simp [hf]) hp _ (by simp [DataW.weights])
  have := List.all_eq_true.1 h _ (DataW.weights_mem_each ht hd _ h1)
  simpa using this
end

abbrev evCells (h : S40) : List Value := [.int .i64 h.f0, .string h.f1, .int .i64 h.f2, .int .i64 h.f3]
def SizedE (l : List S40) : Prop := ∀ h ∈ l, h.f1.size ≤ 140737488351232

theorem open_events {H : Type} {enc : TypeId × Value → H} {W : World} {base : Nat} {spare : Nat → Bool} {held : Bool} {a : Option Addr} {len cap : Nat} {d : DataW H} {ps : List MemPlace} {ts : List TypeId} {ds : List (DataW H)} {j : Nat}
    (hsz : (DataW.weightsEach Try.prog ts ds).all (· ≤ reachBytes) = true) (ht : ts[j]? = some 24) (hd : ds[j]? = some d) (h : DataW.Trod enc Try.prog W base spare held 24 (.slice a len cap) d ps) :
    ∃ l : List S40, len = l.length ∧ len ≤ cap ∧ cap ≤ maxLen ∧ Kd.C k40 W a len l ∧ SizedE l := by
  obtain ⟨fuel, hf⟩ := h
  rcases open_slice_fields Try.underlying24 Try.underlying40 (by kernel_rfl) (by kernel_rfl) hf with ⟨hcs, _⟩ | ⟨x, l, c, m, D, Pl, hcs, _, hl, hcm, hmm, hx, hi⟩
  · simp [Value.cells] at hcs
    obtain ⟨rfl, rfl, rfl⟩ := hcs
    exact ⟨[], rfl, Nat.le_refl _, by unfold maxLen; omega, ⟨rfl, by omega, fun h => absurd h (by omega)⟩, by simp [SizedE]⟩
  · simp [Value.cells] at hcs
    obtain ⟨rfl, rfl, rfl⟩ := hcs
    have hlm : len ≤ m := by rw [hmm]; split <;> omega
    obtain ⟨hdx, _⟩ := Prod.mk.inj hx
    rw [hdx] at hd
    have hQ : ∀ i, ∃ h : S40, i < len → (∀ k u, (evCells h)[k]? = some u → W.cell? (x.add (i * 4 + k)) = some u) ∧ h.f1.size ≤ 140737488351232 := by
      intro i
      by_cases hil : i < len
      · obtain ⟨ys, n, hD, _, _, hcell⟩ := hi i (by omega)
        have hmem : DataW.agg (ys.map (·.1)) ∈ (List.range len).map D := List.mem_map.2 ⟨i, List.mem_range.2 hil, hD⟩
        obtain ⟨v0, y0, c0, e0, t0⟩ := hcell 0 _ rfl
        obtain ⟨v1, y1, c1, e1, t1⟩ := hcell 1 _ rfl
        obtain ⟨v2, y2, c2, e2, t2⟩ := hcell 2 _ rfl
        obtain ⟨v3, y3, c3, e3, t3⟩ := hcell 3 _ rfl
        obtain ⟨n0, q0, rfl, z0⟩ := DataW.trod_int Try.underlying3 t0
        obtain ⟨s1, q1, rfl, z1⟩ := DataW.trod_string Try.underlying9 t1
        obtain ⟨n2, q2, rfl, z2⟩ := DataW.trod_int Try.underlying3 t2
        obtain ⟨n3, q3, rfl, z3⟩ := DataW.trod_int Try.underlying2 t3
        obtain rfl : v0 = .int .i64 n0 := by simpa using q0
        obtain rfl : v1 = .string s1 := by simpa using q1
        obtain rfl : v2 = .int .i64 n2 := by simpa using q2
        obtain rfl : v3 = .int .i64 n3 := by simpa using q3
        have b1 := sized_field_text hsz ht hd Try.underlying24 Try.underlying40 hmem (k := 1) rfl (bytes := s1.data.toList) (by simp [e1])
        rw [Array.length_toList] at b1
        refine ⟨⟨n0, s1, n2, n3⟩, fun _ => ⟨fun k u hk => ?_, b1⟩⟩
        rcases k with _ | _ | _ | _ | k
        · simp [evCells] at hk; subst hk; exact c0
        · simp [evCells] at hk; subst hk; exact c1
        · simp [evCells] at hk; subst hk; exact c2
        · simp [evCells] at hk; subst hk; exact c3
        · simp [evCells] at hk
      · exact ⟨z40, fun h => absurd h hil⟩
    obtain ⟨g, hg⟩ := Classical.axiomOfChoice hQ
    refine ⟨(List.range len).map g, by simp, hl, hcm, ⟨by simp, by unfold maxLen at hcm; omega, fun _ => ⟨x, rfl, fun q p hp => ?_⟩⟩, ?_⟩
    · obtain ⟨hlt, e⟩ := List.getElem?_eq_some_iff.1 hp
      simp at hlt e
      subst e
      exact ⟨evCells (g q), rfl, k40_mk _ _, (hg q hlt).1⟩
    · intro h hh
      obtain ⟨i, hi2, rfl⟩ := List.mem_map.1 hh
      exact (hg i (List.mem_range.1 hi2)).2

section
variable {H : Type} {enc : TypeId × Value → H} {P : Program} {w : World} {base : Nat} {spare : Nat → Bool} {held : Bool}
theorem open_agg9 {r : Reach} {b0 : Nat} {t : TypeId} {f0 f1 f2 f3 f4 f5 f6 f7 f8 : Field} {v : Value} {d : DataW H} {p : List MemPlace} (hs : P.underlying t = some (.struct #[f0, f1, f2, f3, f4, f5, f6, f7, f8])) (hone : oneCellFields P #[f0, f1, f2, f3, f4, f5, f6, f7, f8] = true) (hC : P.cellsOf t = 9)
    (hv : Value.okWide P w r b0 t v) (h : DataW.Trod enc P w base spare held t v d p) :
    ∃ (v0 v1 v2 v3 v4 v5 v6 v7 v8 : Value) (y0 y1 y2 y3 y4 y5 y6 y7 y8 : DataW H × List MemPlace) (n : Nat), v = .agg #[v0, v1, v2, v3, v4, v5, v6, v7, v8] ∧ d = .agg [y0.1, y1.1, y2.1, y3.1, y4.1, y5.1, y6.1, y7.1, y8.1] ∧
      DataW.trod enc P w base spare held n f0.type [v0] = some y0 ∧ DataW.trod enc P w base spare held n f1.type [v1] = some y1 ∧ DataW.trod enc P w base spare held n f2.type [v2] = some y2 ∧ DataW.trod enc P w base spare held n f3.type [v3] = some y3 ∧ DataW.trod enc P w base spare held n f4.type [v4] = some y4 ∧ DataW.trod enc P w base spare held n f5.type [v5] = some y5 ∧ DataW.trod enc P w base spare held n f6.type [v6] = some y6 ∧ DataW.trod enc P w base spare held n f7.type [v7] = some y7 ∧ DataW.trod enc P w base spare held n f8.type [v8] = some y8 := by
  obtain ⟨cs, rfl, hsz⟩ := okWide_struct hs hv
  obtain ⟨l⟩ := cs
  match l, hsz.trans hC with
  | [c0, c1, c2, c3, c4, c5, c6, c7, c8], _ =>
    obtain ⟨fuel, hf⟩ := h
    obtain ⟨xs, n, _, hx, _, hlen, hg⟩ := DataW.trod_struct hs hf
    obtain ⟨o0, k0⟩ := hone_of hone 0 f0 rfl
    obtain ⟨o1, k1⟩ := hone_of hone 1 f1 rfl
    obtain ⟨o2, k2⟩ := hone_of hone 2 f2 rfl
    obtain ⟨o3, k3⟩ := hone_of hone 3 f3 rfl
    obtain ⟨o4, k4⟩ := hone_of hone 4 f4 rfl
    obtain ⟨o5, k5⟩ := hone_of hone 5 f5 rfl
    obtain ⟨o6, k6⟩ := hone_of hone 6 f6 rfl
    obtain ⟨o7, k7⟩ := hone_of hone 7 f7 rfl
    obtain ⟨o8, k8⟩ := hone_of hone 8 f8 rfl
    match xs, hlen with
    | [y0, y1, y2, y3, y4, y5, y6, y7, y8], _ =>
      simp only [Prod.mk.injEq] at hx
      exact ⟨c0, c1, c2, c3, c4, c5, c6, c7, c8, y0, y1, y2, y3, y4, y5, y6, y7, y8, n, rfl, by simpa using hx.1, by simpa [Value.cells, o0, k0] using hg 0 f0 rfl, by simpa [Value.cells, o1, k1] using hg 1 f1 rfl, by simpa [Value.cells, o2, k2] using hg 2 f2 rfl, by simpa [Value.cells, o3, k3] using hg 3 f3 rfl, by simpa [Value.cells, o4, k4] using hg 4 f4 rfl, by simpa [Value.cells, o5, k5] using hg 5 f5 rfl, by simpa [Value.cells, o6, k6] using hg 6 f6 rfl, by simpa [Value.cells, o7, k7] using hg 7 f7 rfl, by simpa [Value.cells, o8, k8] using hg 8 f8 rfl⟩
end

set_option maxRecDepth 100000 in
theorem open_terms {H : Type} {enc : TypeId × Value → H} {W : World} {base b0 : Nat} {r : Reach} {spare : Nat → Bool} {held : Bool} {v : Value} {d : DataW H} {ps : List MemPlace} {ts : List TypeId} {ds : List (DataW H)} {j : Nat}
    (hsz : (DataW.weightsEach Try.prog ts ds).all (· ≤ reachBytes) = true) (ht : ts[j]? = some 23) (hd : ds[j]? = some d) (hv : Value.okWide Try.prog W r b0 23 v) (h : DataW.Trod enc Try.prog W base spare held 23 v d ps) :
    ∃ t : Tm, v = .agg (teCells t) ∧ Named t := by
  obtain ⟨v0, v1, v2, v3, v4, v5, v6, v7, v8, y0, y1, y2, y3, y4, y5, y6, y7, y8, n, rfl, rfl, t0, t1, t2, t3, t4, t5, t6, t7, t8⟩ := open_agg9 Try.underlying23 (by kernel_rfl) (by kernel_rfl) hv h
  obtain ⟨s0, q0, rfl, z0⟩ := DataW.trod_string Try.underlying9 t0
  obtain ⟨s1, q1, rfl, z1⟩ := DataW.trod_string Try.underlying9 t1
  obtain ⟨s2, q2, rfl, z2⟩ := DataW.trod_string Try.underlying9 t2
  obtain ⟨s3, q3, rfl, z3⟩ := DataW.trod_string Try.underlying9 t3
  obtain ⟨n4, q4, rfl, z4⟩ := DataW.trod_int Try.underlying2 t4
  obtain ⟨n5, q5, rfl, z5⟩ := DataW.trod_int Try.underlying3 t5
  obtain ⟨n6, q6, rfl, z6⟩ := DataW.trod_int Try.underlying3 t6
  obtain ⟨n7, q7, rfl, z7⟩ := DataW.trod_int Try.underlying3 t7
  obtain ⟨n8, q8, rfl⟩ := DataW.trod_bool Try.underlying4 t8
  obtain rfl : v0 = .string s0 := by simpa using q0
  obtain rfl : v1 = .string s1 := by simpa using q1
  obtain rfl : v2 = .string s2 := by simpa using q2
  obtain rfl : v3 = .string s3 := by simpa using q3
  obtain rfl : v4 = .int .i64 n4 := by simpa using q4
  obtain rfl : v5 = .int .i64 n5 := by simpa using q5
  obtain rfl : v6 = .int .i64 n6 := by simpa using q6
  obtain rfl : v7 = .int .i64 n7 := by simpa using q7
  obtain rfl : v8 = .bool n8 := by simpa using q8
  have b0 := sized_agg_text hsz ht hd Try.underlying23 (k := 0) rfl (bytes := s0.data.toList) rfl
  have b1 := sized_agg_text hsz ht hd Try.underlying23 (k := 1) rfl (bytes := s1.data.toList) rfl
  have b2 := sized_agg_text hsz ht hd Try.underlying23 (k := 2) rfl (bytes := s2.data.toList) rfl
  have b3 := sized_agg_text hsz ht hd Try.underlying23 (k := 3) rfl (bytes := s3.data.toList) rfl
  rw [Array.length_toList] at b0 b1 b2 b3
  refine ⟨⟨s0, s1, s2, s3, n4, n5, n6, n7, n8⟩, rfl, fun s hs => ?_⟩
  simp only [List.mem_cons, List.not_mem_nil, or_false] at hs
  rcases hs with rfl | rfl | rfl | rfl
  · exact b0
  · exact b1
  · exact b2
  · exact b3
end Go.Proofs.Ythimmaffoehfaaa
