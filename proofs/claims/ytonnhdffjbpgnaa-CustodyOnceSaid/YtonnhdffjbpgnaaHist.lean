/- A box's history, copied; two rows compared; who has a box now. Conditions: rows of at most a million. -/
import Derived.Test.YtonnhdffjbpgnaaPlay
import Derived.Test.YtonnhdffjbpgnaaAs
import Derived.Test.YtonnhdffjbpgnaaQSame
import Derived.Lib.SliceRun
set_option linter.unusedVariables false
set_option linter.unusedSimpArgs false
set_option linter.unusedSectionVars false
namespace Go.Proofs.Ytonnhdffjbpgnaa
open Go.RowKit Go.Proofs.YtonnhdffjbpgnaaW.PrintWords Go.Proofs.YtonnhdffjbpgnaaW.PrintLast Go.Proofs.YtonnhdffjbpgnaaW.PrintMore
open Q

set_option maxRecDepth 100000 in
theorem clone_any (A : Option Addr) (c : Nat) (l : List S41) (w : World) (hr : Kd.C k41 w A l.length l) (hl : l.length ≤ 1000000) :
    Calls Try.prog 32 #[.slice A l.length c] w fun e w' => ∃ v, e = .returned v ∧ Kd.R k41 41 w' w.heap.size (fun _ => True) v l ∧ Below w.heap.size w w' := by
  have HR := Aside0.mk hr
  have HL := Aside0.mk hl
  clear hl
  have heq := fun (W : World) => Lib.run_eql_slice_nil (P := Try.prog) W 22 41 A l.length c 0 0 Try.underlying22
  cases A with
  | none =>
    have h0 : l = [] := by
      by_cases e : 0 < l.length
      · obtain ⟨ad, e1, _⟩ := hr.2.2 e
        cases e1
      · exact List.eq_nil_of_length_eq_zero (by omega)
    subst h0
    clear hr heq
    have heq := fun (W : World) => Lib.run_eql_slice_nil (P := Try.prog) W 22 41 none 0 c 0 0 Try.underlying22
    go_enter Try.func32, Try.ntmps32
    go_wp2
    go_ret
    exact ⟨_, rfl, Kd.R_nil _ _ _ _ _, Below.refl _ _⟩
  | some ad =>
    clear hr
    go_enter Try.func32, Try.ntmps32
    go_wp2_with (first
      | ((with_reducible refine gate_dst (N := 5) rfl ?_); refine Kd.R_lit k41 _ 41 ?hg (N := 5) ?hd (xs := ([] : List S41)) (inner := []) (ok := fun _ => True) (okp := fun _ => True) ?hr ?hp (fun _ hk => hk) trivial (Below.refl _ _) (Nat.le_refl _) (by simp) ?_; (case hd => rfl); (case hg => rfl); (case hr => first | (go_simp; done) | (go_simp; rfl)); (case hp => exact (Reps.none _ _)); intro v0 w0 ho0 hb0 hg0 hn0; have HO0 := Aside0.mk ho0; have HB0 := Aside0.mk hb0; clear ho0 hb0 hg0 hn0)
      | ((with_reducible refine gate_builtin (b := .append) (xs := #[.tmp 5, .tmp 6]) rfl ?_); at_builtin; refine Kd.R_append_rows k41 (w0 := w) w.heap.size rfl (.tmp 5) (.tmp 6) 22 41 (.agg #[(.string ⟨#[]⟩), (.string ⟨#[]⟩), (.string ⟨#[]⟩), (.string ⟨#[]⟩), (.int .i64 0)]) 72 rfl Try.underlying22 info41 rfl (by decide) (by omega) v0 [] l (some ad) l.length c (fun _ => True) (fun _ => False) rfl rfl HO0.out (Kd.C_below HR.out HB0.out) (fun x cs hx => by rw [k41_open hx]; exact k41_mkM _ _ _ x) (fun _ hk => hk.elim) (fun _ _ => trivial) HB0.out HB0.out.size (by have := HL.out; simp; omega) ?_; intro v9 w9 ho9 hb9 hg9 hat9; have HO9 := Aside0.mk ho9; have HB9 := Aside0.mk hb9; clear ho9 hb9 hg9 hat9))
    go_ret
    exact ⟨_, rfl, by simpa using HO9.out, HB9.out⟩

theorem hget_len {n : Nat} {M : List (ByteArray × List S41)} (h : Small n M) {box : ByteArray} : (hget M box).length ≤ n := by
  unfold hget
  cases hq : M.find? fun x => decide (x.1 = box) with
  | none => simp
  | some x => simpa using h.2 x (List.mem_of_find?_eq_some hq)
theorem history_any (B : Nat) (ok : Nat → Prop) (p r : Nat) (E : List BoxRow) (box : ByteArray) (w : World) (hC : ChainAt w B ok p E r) (hsm : Small 1000000 (hands E)) :
    Calls Try.prog 15 #[.pointer (some ⟨p, 0, none⟩), .string box] w fun e w' => ∃ v, e = .returned v ∧ Kd.R k41 41 w' w.heap.size (fun _ => True) v (hget (hands E) box) ∧ Below w.heap.size w w' := by
  have hc := hC.cell
  rcases find_row E box with ⟨hm, hg, hn⟩ | ⟨A, x, C, hE, hx, hA, hm, hg⟩
  · have hlk := run_lookup_miss (P := Try.prog) (strKey Try.underlying9) Try.underlying63 hC.map box hm (zero22 w) false
    simp only [Bool.false_eq_true, if_false] at hlk
    have HG := Aside0.mk hg
    clear hC hm hg hn hsm
    go_enter Try.func15, Try.ntmps15
    go_wp2_with fail
    refine (clone_any none 0 [] w ⟨rfl, by simp, fun h => absurd h (by simp)⟩ (by simp)).mono ?_
    rintro e w1 ⟨v, rfl, hR, hb⟩
    have HR := Aside0.mk hR
    have HB := Aside0.mk hb
    clear hR hb hlk hc
    go_wp2
    go_ret
    exact ⟨_, rfl, by rw [HG.out]; exact HR.out, HB.out⟩
  · have hlk := run_lookup_hit (P := Try.prog) (strKey Try.underlying9) Try.underlying63 hC.map box x.2.1 hm false
    simp only [Bool.false_eq_true, if_false] at hlk
    have hxm : x ∈ E := by rw [hE]; simp
    obtain ⟨A0, c0, hv, _, hrd⟩ := Kd.R_reads (hC.rows x hxm).1
    have hln : x.2.2.length ≤ 1000000 := hsm.2 (x.1, x.2.2) (List.mem_map.2 ⟨x, hxm, rfl⟩)
    rw [hv] at hlk
    have HG := Aside0.mk hg
    have HRD := Aside0.mk hrd
    have HLN := Aside0.mk hln
    clear hC hm hg hv hE hx hA hxm hrd hsm hln
    go_enter Try.func15, Try.ntmps15
    go_wp2_with fail
    refine (clone_any A0 c0 x.2.2 w HRD.out HLN.out).mono ?_
    rintro e w1 ⟨v, rfl, hR, hb⟩
    have HR := Aside0.mk hR
    have HB := Aside0.mk hb
    clear hR hb hlk hc
    go_wp2
    go_ret
    exact ⟨_, rfl, by rw [HG.out]; exact HR.out, HB.out⟩

theorem now_any (B : Nat) (ok : Nat → Prop) (p r : Nat) (E : List BoxRow) (box : ByteArray) (w : World) (hC : ChainAt w B ok p E r) :
    Calls Try.prog 18 #[.pointer (some ⟨p, 0, none⟩), .string box] w fun e w' =>
      e = .returned (.tuple #[.string (asP (hget (hands E) box) 1048576).1, .string (asP (hget (hands E) box) 1048576).2.1, .bool (asP (hget (hands E) box) 1048576).2.2]) ∧ Below w.heap.size w w' := by
  have HC := Aside0.mk hC
  clear hC
  go_enter Try.func18, Try.ntmps18
  go_wp2_with fail
  refine (as_any B ok p r E box 1048576 w HC.out).mono ?_
  rintro e w1 ⟨rfl, hb⟩
  have HB := Aside0.mk hb
  clear hb
  go_wp2
  go_ret3
  exact ⟨rfl, HB.out⟩

/-! ### two rows compared -/
theorem same_loop (l : List S41) (hl : l.length ≤ 1000000) (d : Nat) : ∀ (k i : Nat), i ≤ l.length → l.length - i = d → d < k → supercargoref17_Same.l0 k l l (i : Int) = some true := by
  induction d with
  | zero =>
    intro k i hi hd hk
    obtain ⟨k, rfl⟩ : ∃ m, k = m + 1 := ⟨k - 1, by omega⟩
    rw [supercargoref17_Same.l0, if_neg (by omega)]
  | succ d ih =>
    intro k i hi hd hk
    obtain ⟨k, rfl⟩ : ∃ m, k = m + 1 := ⟨k - 1, by omega⟩
    rw [supercargoref17_Same.l0, if_pos (by omega), if_pos (by omega), if_pos (by omega), wrap_one (by omega) (by omega), if_neg (by simp)]
    exact ih k (i + 1) (by omega) (by omega) (by omega)
theorem same_f (l : List S41) (hl : l.length ≤ 1000000) : supercargoref17_Same.f (l.length + 1) l l = some true := by
  unfold supercargoref17_Same.f
  rw [if_pos rfl]
  exact same_loop l hl l.length (l.length + 1) 0 (by omega) (by omega) (by omega)
theorem same_any (A0 A1 : Option Addr) (c0 c1 : Nat) (l0 l1 : List S41) (w : World) (h : l0 = l1) (h0 : Kd.C k41 w A0 l0.length l0) (hc0 : l0.length ≤ c0) (h1 : Kd.C k41 w A1 l1.length l1) (hc1 : l1.length ≤ c1) (hl : l0.length ≤ 1000000) :
    Calls Try.prog 14 #[.slice A0 l0.length c0, .slice A1 l1.length c1] w fun e w' => e = .returned (.bool true) ∧ Below w.heap.size w w' := by
  subst h
  refine (supercargoref17_Same.calls (l0.length + 1) A0 c0 l0 A1 c1 l0 true w h0 hc0 h1 hc1 (same_f l0 hl)).mono ?_
  rintro e w' ⟨rfl, n, rfl⟩
  exact ⟨rfl, pw_below_drewN (Below.refl _ _) _⟩
end Go.Proofs.Ytonnhdffjbpgnaa
