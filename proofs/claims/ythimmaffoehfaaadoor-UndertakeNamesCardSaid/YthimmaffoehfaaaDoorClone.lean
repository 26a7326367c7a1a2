/- Rows of draws and of events, copied; an event that presents, one that pays. Conditions: rows of at most eight hundred. -/
import Derived.Test.YthimmaffoehfaaaDoorMayD
import Derived.Lib.SliceRun
set_option linter.unusedVariables false
set_option linter.unusedSimpArgs false
set_option linter.unusedSectionVars false
namespace Go.Proofs.YthimmaffoehfaaaDoor
open Go.RowKit Go.Proofs.YthimmaffoehfaaaDoorW.PrintWords Go.Proofs.YthimmaffoehfaaaDoorW.PrintLast Go.Proofs.YthimmaffoehfaaaDoorW.PrintMore
open Q

theorem info41 : (Tryd.prog.info? 41).map (fun i => (i.zero, i.size, i.bytes)) = some (some (.agg #[(.int .i64 0), (.string ⟨#[]⟩), (.int .i64 0), (.int .i64 0)]), 4, 40) := by kernel_rfl
set_option maxRecDepth 100000 in
theorem cloneD_any (A : Option Addr) (c : Nat) (l : List S47) (w : World) (hr : Kd.C k47 w A l.length l) (hl : l.length ≤ 1000000) :
    Calls Tryd.prog 40 #[.slice A l.length c] w fun e w' => ∃ v, e = .returned v ∧ Kd.R k47 47 w' w.heap.size (fun _ => True) v l ∧ Below w.heap.size w w' ∧ (l = [] → A = none → v = .slice none 0 0) := by
  have HR := Aside0.mk hr
  have HL := Aside0.mk hl
  clear hl
  have heq := fun (W : World) => Lib.run_eql_slice_nil (P := Tryd.prog) W 48 47 A l.length c 0 0 Tryd.underlying48
  cases A with
  | none =>
    have h0 : l = [] := by
      by_cases e : 0 < l.length
      · obtain ⟨ad, e1, _⟩ := hr.2.2 e
        cases e1
      · exact List.eq_nil_of_length_eq_zero (by omega)
    subst h0
    clear hr heq
    have heq := fun (W : World) => Lib.run_eql_slice_nil (P := Tryd.prog) W 48 47 none 0 c 0 0 Tryd.underlying48
    go_enter Tryd.func40, Tryd.ntmps40
    go_wp2
    go_ret
    exact ⟨_, rfl, Kd.R_nil _ _ _ _ _, Below.refl _ _, fun _ _ => rfl⟩
  | some ad =>
    clear hr
    go_enter Tryd.func40, Tryd.ntmps40
    go_wp2_with (first
      | ((with_reducible refine gate_dst (N := 5) rfl ?_); refine Kd.R_lit k47 _ 47 ?hg (N := 5) ?hd (xs := ([] : List S47)) (inner := []) (ok := fun _ => True) (okp := fun _ => True) ?hr ?hp (fun _ hk => hk) trivial (Below.refl _ _) (Nat.le_refl _) (by simp) ?_; (case hd => rfl); (case hg => rfl); (case hr => first | (go_simp; done) | (go_simp; rfl)); (case hp => exact (Reps.none _ _)); intro v0 w0 ho0 hb0 hg0 hn0; have HO0 := Aside0.mk ho0; have HB0 := Aside0.mk hb0; clear ho0 hb0 hg0 hn0)
      | ((with_reducible refine gate_builtin (b := .append) (xs := #[.tmp 5, .tmp 6]) rfl ?_); at_builtin; refine Kd.R_append_rows k47 (w0 := w) w.heap.size rfl (.tmp 5) (.tmp 6) 48 47 (.agg #[(.int .i64 0), (.int .i64 0)]) 16 rfl Tryd.underlying48 info47 rfl (by decide) (by omega) v0 [] l (some ad) l.length c (fun _ => True) (fun _ => False) rfl rfl HO0.out (Kd.C_below HR.out HB0.out) (fun x cs hx => by rw [k47_open hx]; exact k47_mkM _ _ _ x) (fun _ hk => hk.elim) (fun _ _ => trivial) HB0.out HB0.out.size (by have := HL.out; simp; omega) ?_; intro v9 w9 ho9 hb9 hg9 hat9; have HO9 := Aside0.mk ho9; have HB9 := Aside0.mk hb9; clear ho9 hb9 hg9 hat9))
    go_ret
    exact ⟨_, rfl, by simpa using HO9.out, HB9.out, fun _ h => by cases h⟩
end Go.Proofs.YthimmaffoehfaaaDoor
