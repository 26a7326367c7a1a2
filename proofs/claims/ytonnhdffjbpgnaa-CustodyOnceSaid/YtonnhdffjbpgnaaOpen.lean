/- An argument that is a row of hand-overs, opened. Conditions: none. -/
import Derived.Test.YtonnhdffjbpgnaaChain
import Derived.Deep.Slices
import Derived.Deep.Fields
import Derived.ChangeSame
import Derived.SizedLaws
import Derived.ProofKit
import Derived.OpenShut
import Derived.ShutString
set_option linter.unusedVariables false
set_option linter.unusedSimpArgs false
set_option linter.unusedSectionVars false
namespace Go.Proofs.Ytonnhdffjbpgnaa
open Go.RowKit Go.Proofs.YtonnhdffjbpgnaaW.PrintWords Go.Proofs.YtonnhdffjbpgnaaW.PrintLast Go.Proofs.YtonnhdffjbpgnaaW.PrintMore Go.ChangeShapes Go.WideShapes Go.Deep
open Q

section
variable {H : Type} {enc : TypeId × Value → H} {P : Program} {w : World} {base : Nat} {spare : Nat → Bool} {held : Bool}
theorem open_slice_fields {t e : TypeId} {fs : Array Field} {fuel : Nat} {cs : List Value} {x : DataW H × List MemPlace} (ht : P.underlying t = some (.slice e)) (he : P.underlying e = some (.struct fs))
    (hone : oneCellFields P fs = true) (hC : P.cellsOf e = fs.size) (h : DataW.trod enc P w base spare held fuel t cs = some x) :
    (cs = [.slice none 0 0] ∧ x = (.nil, [])) ∨
    ∃ (a : Addr) (len cap m : Nat) (D : Nat → DataW H) (Pl : Nat → List MemPlace), cs = [.slice (some a) len cap] ∧ base ≤ a.block ∧ len ≤ cap ∧ cap ≤ maxLen ∧ m = (if spare a.block then cap else len) ∧
      x = (.slice ((List.range len).map D) ((List.range (m - len)).map fun j => D (len + j)), MemPlace.row a (m * fs.size) ++ (List.range m).flatMap Pl) ∧
      ∀ i, i < m → ∃ (ys : List (DataW H × List MemPlace)) (n : Nat), D i = .agg (ys.map (·.1)) ∧ Pl i = ys.flatMap (·.2) ∧ ys.length = fs.size ∧
        ∀ (j : Nat) (f : Field), fs[j]? = some f → ∃ (v : Value) (y : DataW H × List MemPlace), w.cell? (a.add (i * fs.size + j)) = some v ∧ ys[j]? = some y ∧ DataW.trod enc P w base spare held n f.type [v] = some y := by
  rcases open_slice ht h with h0 | ⟨a, len, cap, m, n, D, Pl, hcs, hb, hl, hm, hmm, hx, hi⟩
  · exact .inl h0
  · refine .inr ⟨a, len, cap, m, D, Pl, hcs, hb, hl, hm, hmm, by rw [hC] at hx; exact hx, fun i him => ?_⟩
    obtain ⟨cs', hc, ht'⟩ := hi i him
    rw [hC] at hc
    obtain ⟨ys, n', hn', hy, hlen, hyl, hf⟩ := DataW.trod_struct he ht'
    obtain ⟨_, hcl, hat⟩ := World.cells?_some hc
    simp only [Prod.mk.injEq] at hy
    refine ⟨ys, n', hy.1, hy.2, hyl, fun j f hj => ?_⟩
    obtain ⟨ho, hk⟩ := hone_of hone j f hj
    have hjl : j < fs.size := (Array.getElem?_eq_some_iff.1 hj).1
    have hcell := hat j hjl
    have hv : cs'[j]? = some (cs'[j]'(by omega)) := List.getElem?_eq_getElem (by omega)
    have h1 := hf j f hj
    rw [ho, hk] at h1
    have hone' : (cs'.drop j).take 1 = [cs'[j]'(by omega)] := by
      rw [List.drop_eq_getElem_cons (by omega)]
      rfl
    rw [hone'] at h1
    have hys : ys[j]? = some (ys[j]'(by omega)) := List.getElem?_eq_getElem (by omega)
    refine ⟨_, _, ?_, hys, h1.trans hys⟩
    rw [← Go.Deep.add_add, hcell, hv]

theorem weights_mem_all {e : TypeId} : ∀ {ds : List (DataW H)} {d : DataW H}, d ∈ ds → ∀ n ∈ d.weights P e, n ∈ DataW.weightsAll P e ds
  | d0 :: ds, d, hd, n, hn => by
    simp only [DataW.weightsAll, List.mem_append]
    rcases List.mem_cons.1 hd with rfl | hd
    · exact Or.inl hn
    · exact Or.inr (weights_mem_all hd n hn)
  | [], _, hd, _, _ => by simp at hd

theorem sized_field_text {ts : List TypeId} {ds : List (DataW H)} (h : (DataW.weightsEach P ts ds).all (· ≤ reachBytes) = true) {j : Nat} {t e : TypeId} {elems spare : List (DataW H)} (ht : ts[j]? = some t) (hd : ds[j]? = some (.slice elems spare)) (hu : P.underlying t = some (.slice e))
    {fs : Array Field} (he : P.underlying e = some (.struct fs)) {parts : List (DataW H)} (hm : DataW.agg parts ∈ elems) {k : Nat} {f : Field} (hf : fs[k]? = some f) {bytes : List UInt8} (hp : parts[k]? = some (.lit (.string bytes))) : bytes.length ≤ reachBytes := by
  have h1 : bytes.length ∈ (DataW.agg parts).weights P e := by
    simp only [DataW.weights, he]
    refine DataW.weights_mem_each (j := k) (t := f.type) (by simp [hf]) hp _ (by simp [DataW.weights])
  have h2 : bytes.length ∈ (DataW.slice elems spare).weights P t := by
    simp only [DataW.weights, hu, List.mem_cons, List.mem_append]
    exact Or.inr (Or.inl (weights_mem_all hm _ h1))
  have := List.all_eq_true.1 h _ (DataW.weights_mem_each ht hd _ h2)
  simpa using this
end

def Sized4 (l : List S41) : Prop := ∀ h ∈ l, ∀ s ∈ [h.f0, h.f1, h.f2, h.f3], s.size ≤ 140737488351232

theorem open_hands {H : Type} {enc : TypeId × Value → H} {W : World} {base : Nat} {spare : Nat → Bool} {held : Bool} {a : Option Addr} {len cap : Nat} {d : DataW H} {ps : List MemPlace} {ts : List TypeId} {ds : List (DataW H)} {j : Nat}
    (hsz : (DataW.weightsEach Try.prog ts ds).all (· ≤ reachBytes) = true) (ht : ts[j]? = some 22) (hd : ds[j]? = some d) (h : DataW.Trod enc Try.prog W base spare held 22 (.slice a len cap) d ps) :
    ∃ l : List S41, len = l.length ∧ len ≤ cap ∧ Kd.C k41 W a len l ∧ Sized4 l := by
  obtain ⟨fuel, hf⟩ := h
  rcases open_slice_fields Try.underlying22 Try.underlying41 (by kernel_rfl) (by kernel_rfl) hf with ⟨hcs, _⟩ | ⟨x, l, c, m, D, Pl, hcs, _, hl, hcm, hmm, hx, hi⟩
  · simp [Value.cells] at hcs
    obtain ⟨rfl, rfl, rfl⟩ := hcs
    exact ⟨[], rfl, Nat.le_refl _, ⟨rfl, by omega, fun h => absurd h (by omega)⟩, by simp [Sized4]⟩
  · simp [Value.cells] at hcs
    obtain ⟨rfl, rfl, rfl⟩ := hcs
    have hlm : len ≤ m := by rw [hmm]; split <;> omega
    obtain ⟨hdx, _⟩ := Prod.mk.inj hx
    rw [hdx] at hd
    have hQ : ∀ i, ∃ h : S41, i < len → (∀ k u, (handCells h)[k]? = some u → W.cell? (x.add (i * 5 + k)) = some u) ∧ ∀ s ∈ [h.f0, h.f1, h.f2, h.f3], s.size ≤ 140737488351232 := by
      intro i
      by_cases hil : i < len
      · obtain ⟨ys, n, hD, _, _, hcell⟩ := hi i (by omega)
        have hmem : DataW.agg (ys.map (·.1)) ∈ (List.range len).map D := List.mem_map.2 ⟨i, List.mem_range.2 hil, hD⟩
        obtain ⟨v0, y0, c0, e0, t0⟩ := hcell 0 _ rfl
        obtain ⟨v1, y1, c1, e1, t1⟩ := hcell 1 _ rfl
        obtain ⟨v2, y2, c2, e2, t2⟩ := hcell 2 _ rfl
        obtain ⟨v3, y3, c3, e3, t3⟩ := hcell 3 _ rfl
        obtain ⟨v4, y4, c4, e4, t4⟩ := hcell 4 _ rfl
        obtain ⟨s0, q0, rfl, z0⟩ := DataW.trod_string Try.underlying9 t0
        obtain ⟨s1, q1, rfl, z1⟩ := DataW.trod_string Try.underlying9 t1
        obtain ⟨s2, q2, rfl, z2⟩ := DataW.trod_string Try.underlying9 t2
        obtain ⟨s3, q3, rfl, z3⟩ := DataW.trod_string Try.underlying9 t3
        obtain ⟨n4, q4, rfl, z4⟩ := DataW.trod_int Try.underlying3 t4
        obtain rfl : v0 = .string s0 := by simpa using q0
        obtain rfl : v1 = .string s1 := by simpa using q1
        obtain rfl : v2 = .string s2 := by simpa using q2
        obtain rfl : v3 = .string s3 := by simpa using q3
        obtain rfl : v4 = .int .i64 n4 := by simpa using q4
        have b0 := sized_field_text hsz ht hd Try.underlying22 Try.underlying41 hmem (k := 0) rfl (bytes := s0.data.toList) (by simp [e0])
        have b1 := sized_field_text hsz ht hd Try.underlying22 Try.underlying41 hmem (k := 1) rfl (bytes := s1.data.toList) (by simp [e1])
        have b2 := sized_field_text hsz ht hd Try.underlying22 Try.underlying41 hmem (k := 2) rfl (bytes := s2.data.toList) (by simp [e2])
        have b3 := sized_field_text hsz ht hd Try.underlying22 Try.underlying41 hmem (k := 3) rfl (bytes := s3.data.toList) (by simp [e3])
        rw [Array.length_toList] at b0 b1 b2 b3
        refine ⟨⟨s0, s1, s2, s3, n4⟩, fun _ => ⟨fun k u hk => ?_, ?_⟩⟩
        · rcases k with _ | _ | _ | _ | _ | k
          · simp [handCells] at hk; subst hk; exact c0
          · simp [handCells] at hk; subst hk; exact c1
          · simp [handCells] at hk; subst hk; exact c2
          · simp [handCells] at hk; subst hk; exact c3
          · simp [handCells] at hk; subst hk; exact c4
          · simp [handCells] at hk
        · intro s hs
          simp only [List.mem_cons, List.not_mem_nil, or_false] at hs
          rcases hs with rfl | rfl | rfl | rfl
          · exact b0
          · exact b1
          · exact b2
          · exact b3
      · exact ⟨z41, fun h => absurd h hil⟩
    obtain ⟨g, hg⟩ := Classical.axiomOfChoice hQ
    refine ⟨(List.range len).map g, by simp, hl, ⟨by simp, by unfold maxLen at hcm; omega, fun _ => ⟨x, rfl, fun q p hp => ?_⟩⟩, ?_⟩
    · obtain ⟨hlt, e⟩ := List.getElem?_eq_some_iff.1 hp
      simp at hlt e
      subst e
      exact ⟨handCells (g q), rfl, k41_mk _ _, (hg q hlt).1⟩
    · intro h hh
      obtain ⟨i, hi2, rfl⟩ := List.mem_map.1 hh
      exact (hg i (List.mem_range.1 hi2)).2
end Go.Proofs.Ytonnhdffjbpgnaa
