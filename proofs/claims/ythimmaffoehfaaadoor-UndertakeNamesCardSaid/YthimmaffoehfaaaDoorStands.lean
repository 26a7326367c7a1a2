/- May a kind of event happen to a life as it stands? Conditions: the kind is one of the eight. -/
import Derived.Test.YthimmaffoehfaaaDoorSets
set_option linter.unusedVariables false
set_option linter.unusedSimpArgs false
set_option linter.unusedSectionVars false
namespace Go.Proofs.YthimmaffoehfaaaDoor
open Go.RowKit Go.Proofs.YthimmaffoehfaaaDoorW.PrintWords Go.Proofs.YthimmaffoehfaaaDoorW.PrintLast Go.Proofs.YthimmaffoehfaaaDoorW.PrintMore
open Q

/-! ### the table by its rows -/
def inK (k : Int) : List Int := if k = 0 then [0] else if k = 1 then [1] else if k = 2 then [1, 3, 6] else if k = 3 then [2] else if k = 4 then [2] else if k = 5 then [4] else if k = 6 then [5] else [0, 1, 3, 6]
def inAt (k : Int) : Nat := if k = 0 then 1 else if k = 1 then 3 else if k = 2 then 4 else if k = 3 then 5 else if k = 4 then 7 else if k = 5 then 9 else if k = 6 then 10 else 11
def byF (k : Int) : Nat := if k = 0 then 21 else if k = 1 then 23 else if k = 2 then 25 else if k = 3 then 15 else if k = 4 then 15 else if k = 5 then 15 else if k = 6 then 16 else 21
def thF (k : Int) : Nat := if k = 0 then 38 else if k = 1 then 24 else if k = 2 then 26 else if k = 3 then 38 else if k = 4 then 38 else if k = 5 then 27 else if k = 6 then 28 else 29
def thC (n : Nat) (k : Int) : Array Value := if k = 0 then #[.pointer (some ⟨n + 2, 0, none⟩)] else if k = 3 then #[.pointer (some ⟨n + 6, 0, none⟩)] else if k = 4 then #[.pointer (some ⟨n + 8, 0, none⟩)] else #[]
def inV (n : Nat) (k : Int) : Value := .slice (some ⟨n + inAt k, 0, none⟩) (inK k).length (inK k).length

theorem kind_cases {k : Int} (h0 : 0 ≤ k) (h7 : k ≤ 7) : k = 0 ∨ k = 1 ∨ k = 2 ∨ k = 3 ∨ k = 4 ∨ k = 5 ∨ k = 6 ∨ k = 7 := by omega
theorem kIndex (n : Nat) {k : Int} (h0 : 0 ≤ k) (h7 : k ≤ 7) (w : World) : (Instr.index 58 (.agg (kCells n)) (.int .i64 k)).run Tryd.prog w = .ok (.agg #[inV n k, .func (.func (byF k)) #[] #[], .func (.func (thF k)) #[] (thC n k)]) w := by
  rcases kind_cases h0 h7 with rfl | rfl | rfl | rfl | rfl | rfl | rfl | rfl <;> kernel_rfl

theorem kField0 (a b c : Value) (w : World) : (Instr.field 57 (.agg #[a, b, c]) 0).run Tryd.prog w = .ok a w := by kernel_rfl
theorem kField1 (a b c : Value) (w : World) : (Instr.field 57 (.agg #[a, b, c]) 1).run Tryd.prog w = .ok b w := by kernel_rfl
theorem kField2 (a b c : Value) (w : World) : (Instr.field 57 (.agg #[a, b, c]) 2).run Tryd.prog w = .ok c w := by kernel_rfl

theorem kTab_in {w : World} {n : Nat} (h : KTab w n) {k : Int} (h0 : 0 ≤ k) (h7 : k ≤ 7) : w.heap[n + inAt k]? = some (nums1 (inK k)) := by
  rcases kind_cases h0 h7 with rfl | rfl | rfl | rfl | rfl | rfl | rfl | rfl
  · exact h.s0
  · exact h.s1
  · exact h.s2
  · exact h.s3
  · exact h.s4
  · exact h.s5
  · exact h.s6
  · exact h.s7

theorem ints_in {w : World} {g : Nat} (xs : List Int) (hl : xs.length ≤ 9223372036854775807) (h : w.heap[g]? = some (nums1 xs)) : Kd.C (Kd.int .i64) w (some ⟨g, 0, none⟩) xs.length xs := by
  refine ⟨rfl, hl, fun _ => ⟨_, rfl, fun j p hj => ⟨[.int .i64 p], rfl, rfl, fun i u hu => ?_⟩⟩⟩
  cases i with
  | succ i => simp at hu
  | zero =>
    have : Value.int .i64 p = u := by simpa using hu
    subst this
    have e : (⟨g, 0, none⟩ : Addr).add (j * (Kd.int .i64).sz + 0) = ⟨g, j, none⟩ := by
      rw [add_plain]; simp [Kd.int, Kd.scalar]
    rw [e]
    simp only [World.cell?, h]
    show ((xs.map (Value.int .i64)).toArray)[j]? = _
    simp [hj]

def hasI (l : List Int) (n : Int) : Bool := l.any fun x => decide (n = x)
theorem rd_int {l : List Int} {i : Nat} (h : i < l.length) : l.drop i = rd l (i : Int) :: l.drop (i + 1) := by
  rw [List.drop_eq_getElem_cons h]
  unfold rd
  rw [Int.toNat_natCast, List.getD_eq_getElem?_getD, List.getElem?_eq_getElem h]
  rfl
theorem index_int (l : List Int) (s : Int) (hl : l.length ≤ 1000) (d : Nat) : ∀ (k i : Nat), i ≤ l.length → l.length - i = d → d < k → ∃ n : Int, slices_Index_int_int.l0 k l s (l.length : Int) (i : Int) = some n ∧ decide (0 ≤ n) = hasI (l.drop i) s := by
  induction d with
  | zero =>
    intro k i hi hd hk
    obtain ⟨k, rfl⟩ : ∃ m, k = m + 1 := ⟨k - 1, by omega⟩
    rw [slices_Index_int_int.l0, if_neg (by omega), show l.drop i = [] from List.drop_eq_nil_of_le (by omega)]
    exact ⟨-1, rfl, rfl⟩
  | succ d ih =>
    intro k i hi hd hk
    obtain ⟨k, rfl⟩ : ∃ m, k = m + 1 := ⟨k - 1, by omega⟩
    have hlt : i < l.length := by omega
    rw [slices_Index_int_int.l0, if_pos (by omega), if_pos (by omega), if_pos (by omega), wrap_one (by omega) (by omega), rd_int hlt]
    by_cases e : s = rd l (i : Int)
    · rw [if_pos e]
      refine ⟨i, rfl, ?_⟩
      simp [hasI, ← e]
    · rw [if_neg e, show ((i : Int) + 1) = ((i + 1 : Nat) : Int) by omega]
      obtain ⟨n, hn, hd⟩ := ih k (i + 1) (by omega) (by omega) (by omega)
      refine ⟨n, hn, ?_⟩
      rw [hd]
      simp [hasI, e]
theorem containsI_any (A : Option Addr) (c : Nat) (l : List Int) (s : Int) (w : World) (hr : Kd.C (Kd.int .i64) w A l.length l) (hc : l.length ≤ c) (hl : l.length ≤ 1000) :
    Calls Tryd.prog 20 #[.slice A l.length c, .int .i64 s] w fun e w' => e = .returned (.bool (hasI l s)) ∧ ∃ n, w' = w.drewN n := by
  obtain ⟨n, hn, hd⟩ := index_int l s hl l.length (l.length + 1) 0 (by omega) (by omega) (by omega)
  refine (slices_Contains_int_int.calls (l.length + 1) A c l s (hasI l s) w hr hc ?_).mono ?_
  · unfold slices_Contains_int_int.f slices_Index_int_int.f
    rw [show (0 : Int) = ((0 : Nat) : Int) from rfl, hn]
    simp only [Option.bind_some]
    rw [List.drop_zero] at hd
    rw [← hd]
    rfl
  · rintro e w' ⟨rfl, n, rfl⟩
    exact ⟨rfl, n, rfl⟩
theorem inK_len (k : Int) : (inK k).length ≤ 4 := by
  unfold inK
  repeat' split
  all_goals simp
theorem in_any {w : World} {n : Nat} {k : Int} (h0 : 0 ≤ k) (h7 : k ≤ 7) (h : KTab w n) (s : Int) :
    Calls Tryd.prog 20 #[inV n k, .int .i64 s] w fun e w' => e = .returned (.bool (hasI (inK k) s)) ∧ ∃ n, w' = w.drewN n :=
  containsI_any _ _ _ _ _ (ints_in _ (by have := inK_len k; omega) (kTab_in h h0 h7)) (Nat.le_refl _) (by have := inK_len k; omega)

def standsB (t : Tm) (s : LS) (k : Int) : Bool := !(k == 1 && (s.cf || t.cnf.toList.isEmpty)) && hasI (inK k) s.st

theorem stands_rest {w : World} {B g : Nat} {t : Tm} {s : LS} {pv hv : Value} (h : LifeAt w B g t s pv hv) (k : Int) (h0 : 0 ≤ k) (h7 : k ≤ 7) (hne : k ≠ 1) :
    Calls Tryd.prog 13 #[.pointer (some ⟨g, 0, none⟩), .int .i64 k] w fun e w' => e = .returned (.bool (standsB t s k)) ∧ Below w.heap.size w w' := by
  have c18 : w.cell? ⟨g, 18, none⟩ = some (.int .i64 s.st) := h.cell 18
  have hg := h.lt
  have hix := fun n => kIndex n h0 h7
  have hf0 := fun n w => kField0 (inV n k) (.func (.func (byF k)) #[] #[]) (.func (.func (thF k)) #[] (thC n k)) w
  have hk1 : (k == 1) = false := by simpa using hne
  have HE : Aside0 (standsB t s k = hasI (inK k) s.st) := ⟨by unfold standsB; rw [hk1]; rfl⟩
  clear h
  go_enter Tryd.func13, Tryd.ntmps13
  go_wp2
  go_region_held3 (fun w' => w'.cell? ⟨g, 18, none⟩ = some (.int .i64 s.st)) (go_keep)
      (first
        | (go_at_call 14; refine (kinds_any _).mono ?_; rintro e w1 ⟨rfl, hb1, ht1⟩; have c18' := (hb1.cell (p := ⟨g, 18, none⟩) hg).trans c18; have HB1 := Aside0.mk hb1; have HT1 := Aside0.mk ht1; clear hb1 ht1)
        | (go_at_call 20; refine (in_any h0 h7 HT1.out _).mono ?_; rintro e w2 ⟨rfl, q, rfl⟩))
  go_wp2
  go_ret
  exact ⟨by rw [HE.out]; rfl, pw_below_drewN ((below_drew (Below.refl _ w)).trans HB1.out) _⟩
theorem stands_one {w : World} {B g : Nat} {t : Tm} {s : LS} {pv hv : Value} (h : LifeAt w B g t s pv hv) :
    Calls Tryd.prog 13 #[.pointer (some ⟨g, 0, none⟩), .int .i64 1] w fun e w' => e = .returned (.bool (standsB t s 1)) ∧ Below w.heap.size w w' := by
  have c4 : w.cell? ⟨g, 4, none⟩ = some (.string t.cnf) := h.cell 4
  have c18 : w.cell? ⟨g, 18, none⟩ = some (.int .i64 s.st) := h.cell 18
  have c19 : w.cell? ⟨g, 19, none⟩ = some (.bool s.cf) := h.cell 19
  have hg := h.lt
  have hix := fun n => kIndex n (k := 1) (by omega) (by omega)
  have hf0 := fun n w => kField0 (inV n 1) (.func (.func (byF 1)) #[] #[]) (.func (.func (thF 1)) #[] (thC n 1)) w
  have HE : Aside0 (standsB t s 1 = (!(s.cf || t.cnf.toList.isEmpty) && hasI (inK 1) s.st)) := ⟨rfl⟩
  clear h
  obtain ⟨st, cf, rp, dd, da, paid, hist⟩ := s
  simp only at c18 c19 HE ⊢
  cases cf with
  | true =>
    go_enter Tryd.func13, Tryd.ntmps13
    go_wp2
    go_ret
    exact ⟨by rw [HE.out]; rfl, Below.refl _ _⟩
  | false =>
    by_cases hc : t.cnf.toList = []
    · have hce : t.cnf.toList.isEmpty = true := by simp [hc]
      go_enter Tryd.func13, Tryd.ntmps13
      go_wp2
      go_ret
      exact ⟨by rw [HE.out]; simp [hce], Below.refl _ _⟩
    · have hce : t.cnf.toList.isEmpty = false := by simpa using hc
      have HC := Aside0.mk hce
      go_enter Tryd.func13, Tryd.ntmps13
      go_wp2
      go_region_held3 (fun w' => w'.cell? ⟨g, 18, none⟩ = some (.int .i64 st)) (go_keep)
        (first
          | (go_at_call 14; refine (kinds_any _).mono ?_; rintro e w1 ⟨rfl, hb1, ht1⟩; have c18' := (hb1.cell (p := ⟨g, 18, none⟩) hg).trans c18; have HB1 := Aside0.mk hb1; have HT1 := Aside0.mk ht1; clear hb1 ht1)
          | (go_at_call 20; refine (in_any (k := 1) (by omega) (by omega) HT1.out _).mono ?_; rintro e w2 ⟨rfl, q, rfl⟩))
      go_wp2
      go_ret
      exact ⟨by rw [HE.out, HC.out]; rfl, pw_below_drewN ((below_drew (Below.refl _ w)).trans HB1.out) _⟩
theorem stands_any {w : World} {B g : Nat} {t : Tm} {s : LS} {pv hv : Value} (h : LifeAt w B g t s pv hv) (k : Int) (h0 : 0 ≤ k) (h7 : k ≤ 7) :
    Calls Tryd.prog 13 #[.pointer (some ⟨g, 0, none⟩), .int .i64 k] w fun e w' => e = .returned (.bool (standsB t s k)) ∧ Below w.heap.size w w' := by
  by_cases hk : k = 1
  · subst hk
    exact stands_one h
  · exact stands_rest h k h0 h7 hk

/-! ### who may do a kind, as the table has it -/
def byB (t : Tm) (s : LS) (k : Int) : ByteArray := if k = 0 then t.iss else if k = 1 then t.cnf else if k = 2 then t.ben else if k = 3 then bankB t s else if k = 4 then bankB t s else if k = 5 then bankB t s else if k = 6 then repB t s else t.iss
theorem by_any {w : World} {B g : Nat} {t : Tm} {s : LS} {pv hv : Value} (h : LifeAt w B g t s pv hv) (k : Int) (h0 : 0 ≤ k) (h7 : k ≤ 7) :
    Calls Tryd.prog (byF k) #[.pointer (some ⟨g, 0, none⟩)] w fun e w' => e = .returned (.string (byB t s k)) ∧ w = w' := by
  rcases kind_cases h0 h7 with rfl | rfl | rfl | rfl | rfl | rfl | rfl | rfl
  · exact issuer_any h
  · exact confirmer_any h
  · exact beneficiary_any h
  · exact answers_any h
  · exact answers_any h
  · exact answers_any h
  · exact repays_any h
  · exact issuer_any h
end Go.Proofs.YthimmaffoehfaaaDoor
