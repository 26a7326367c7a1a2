-- Written by a program of these sessions (wip/print-turned.py): a turned run of the kit's print.
import Derived.Test.YthimmaffoehfaaaQx0
namespace Go.Proofs.Ythimmaffoehfaaa.Q
open Go.RowKit Go.Proofs.YthimmaffoehfaaaW.PrintWords Go.Proofs.YthimmaffoehfaaaW.PrintLast Go.Proofs.YthimmaffoehfaaaW.PrintMore
attribute [local go_sem] max2_int min2_int max_two min_two max_three min_three max_four min_four   -- for this text's walks alone
set_option linter.unusedVariables false
set_option linter.unusedSimpArgs false

/-! ### supercargolaw34_Terms_long: function 8 -/
def supercargolaw34_Terms_long.f (a0_0 : ByteArray) (a0_1 : ByteArray) (a0_2 : ByteArray) (a0_3 : ByteArray) (a0_4 : Int) (a0_5 : Int) (a0_6 : Int) (a0_7 : Int) (a0_8 : Bool) : Option (Bool) := if (a0_0.size : Int) > 100 then (some true) else (if (a0_1.size : Int) > 100 then (some true) else (if (a0_2.size : Int) > 100 then (some true) else (some (decide ((a0_3.size : Int) > 100)))))
set_option maxHeartbeats 8000000 in
set_option maxRecDepth 100000 in
theorem supercargolaw34_Terms_long.calls (a0_0 : ByteArray) (a0_1 : ByteArray) (a0_2 : ByteArray) (a0_3 : ByteArray) (a0_4 : Int) (a0_5 : Int) (a0_6 : Int) (a0_7 : Int) (a0_8 : Bool) (r : Bool) (w : World) (h : supercargolaw34_Terms_long.f a0_0 a0_1 a0_2 a0_3 a0_4 a0_5 a0_6 a0_7 a0_8 = some r) :
    Calls Try.prog 8 #[.agg #[.string a0_0, .string a0_1, .string a0_2, .string a0_3, .int .i64 a0_4, .int .i64 a0_5, .int .i64 a0_6, .int .i64 a0_7, .bool a0_8]] w fun e w' => e = .returned (.bool r) ∧ Below w.heap.size w w' := by
  have hu23 := Try.underlying23
  have HB := Aside0.mk (Below.refl w.heap.size w)
  have H : (if (a0_0.size : Int) > 100 then (some true) else (if (a0_1.size : Int) > 100 then (some true) else (if (a0_2.size : Int) > 100 then (some true) else (some (decide ((a0_3.size : Int) > 100)))))) = some r := h
  clear h
  by_cases c2 : (a0_0.size : Int) > 100
  · rw [if_pos c2] at H
    have c2b0 : decide (100 < (a0_0.size : Int)) = true := decide_eq_true c2
    have c2b1 : decide (100 < a0_0.size) = true := decide_eq_true (by omega)
    clear c2
    obtain rfl := Option.some.inj H
    go_enter Try.func8, Try.ntmps8
    go_wp2_with (first | ((with_reducible refine gate_dst (N := 1) rfl ?_); (try (refine gate_guard (by rfl) ?_; dsimp only)); refine box_event ?hg (N := 1) ?hd (cs := #[.string a0_0, .string a0_1, .string a0_2, .string a0_3, .int .i64 a0_4, .int .i64 a0_5, .int .i64 a0_6, .int .i64 a0_7, .bool a0_8]) (t := 23) ?hr ?_; (case hd => rfl); (case hg => rfl); (case hr => first | (go_simp; done) | (go_simp; rfl)); intro gb221 hg w3 hbox hb; have n0_ := Aside0.mk (below_step (by repeat (first | (with_reducible first | exact HB.out | apply below_alloc | apply pw_below_drewN | apply below_drew1) | exact HB.out)) hb); have n1_ := Aside0.mk (hbox); have n2_ := Aside0.mk ((by rw [hg]; exact (below_size (by repeat (first | (with_reducible first | exact HB.out | apply below_alloc | apply pw_below_drewN | apply below_drew1) | exact HB.out))) : w.heap.size ≤ gb221)); have n3_ := Aside0.mk ((by rw [hg]; exact (below_size (by repeat (first | (with_reducible first | exact HB.out | apply below_alloc | apply pw_below_drewN | apply below_drew1) | exact HB.out))) : w.heap.size ≤ gb221)); clear HB; have HB := n0_; have BK221 := n1_; have GW221 := n2_; have GE221 := n3_; clear n0_ n1_ n2_ n3_; clear hb hbox hg; have hcz4_0 : w3.cell? ⟨gb221, 0, none⟩ = some (.string a0_0) := (blk_cell BK221.out 0).trans rfl; have hcz4_1 : w3.cell? ⟨gb221, 1, none⟩ = some (.string a0_1) := (blk_cell BK221.out 1).trans rfl; have hcz4_2 : w3.cell? ⟨gb221, 2, none⟩ = some (.string a0_2) := (blk_cell BK221.out 2).trans rfl; have hcz4_3 : w3.cell? ⟨gb221, 3, none⟩ = some (.string a0_3) := (blk_cell BK221.out 3).trans rfl; have hcz4_4 : w3.cell? ⟨gb221, 4, none⟩ = some (.int .i64 a0_4) := (blk_cell BK221.out 4).trans rfl; have hcz4_5 : w3.cell? ⟨gb221, 5, none⟩ = some (.int .i64 a0_5) := (blk_cell BK221.out 5).trans rfl; have hcz4_6 : w3.cell? ⟨gb221, 6, none⟩ = some (.int .i64 a0_6) := (blk_cell BK221.out 6).trans rfl; have hcz4_7 : w3.cell? ⟨gb221, 7, none⟩ = some (.int .i64 a0_7) := (blk_cell BK221.out 7).trans rfl; have hcz4_8 : w3.cell? ⟨gb221, 8, none⟩ = some (.bool a0_8) := (blk_cell BK221.out 8).trans rfl; have hfz4_0 := blk_frozen BK221.out 0; have hfz4_1 := blk_frozen BK221.out 1; have hfz4_2 := blk_frozen BK221.out 2; have hfz4_3 := blk_frozen BK221.out 3; have hfz4_4 := blk_frozen BK221.out 4; have hfz4_5 := blk_frozen BK221.out 5; have hfz4_6 := blk_frozen BK221.out 6; have hfz4_7 := blk_frozen BK221.out 7; have hfz4_8 := blk_frozen BK221.out 8))
    go_ret
    exact ⟨by first | rfl | (simp [errW_none, errW_some] <;> rfl) | (simp [*, errW_none, errW_some] <;> rfl), by repeat (first | (with_reducible first | exact HB.out | apply below_alloc | apply pw_below_drewN | apply below_drew1 | refine below_set ?_ GE221.out) | exact HB.out)⟩
  · rw [if_neg c2] at H
    have c2b0 : decide (100 < (a0_0.size : Int)) = false := decide_eq_false c2
    have c2b1 : decide (100 < a0_0.size) = false := decide_eq_false (by omega)
    clear c2
    by_cases c5 : (a0_1.size : Int) > 100
    · rw [if_pos c5] at H
      have c5b0 : decide (100 < (a0_1.size : Int)) = true := decide_eq_true c5
      have c5b1 : decide (100 < a0_1.size) = true := decide_eq_true (by omega)
      clear c5
      obtain rfl := Option.some.inj H
      go_enter Try.func8, Try.ntmps8
      go_wp2_with (first | ((with_reducible refine gate_dst (N := 1) rfl ?_); (try (refine gate_guard (by rfl) ?_; dsimp only)); refine box_event ?hg (N := 1) ?hd (cs := #[.string a0_0, .string a0_1, .string a0_2, .string a0_3, .int .i64 a0_4, .int .i64 a0_5, .int .i64 a0_6, .int .i64 a0_7, .bool a0_8]) (t := 23) ?hr ?_; (case hd => rfl); (case hg => rfl); (case hr => first | (go_simp; done) | (go_simp; rfl)); intro gb221 hg w6 hbox hb; have n0_ := Aside0.mk (below_step (by repeat (first | (with_reducible first | exact HB.out | apply below_alloc | apply pw_below_drewN | apply below_drew1) | exact HB.out)) hb); have n1_ := Aside0.mk (hbox); have n2_ := Aside0.mk ((by rw [hg]; exact (below_size (by repeat (first | (with_reducible first | exact HB.out | apply below_alloc | apply pw_below_drewN | apply below_drew1) | exact HB.out))) : w.heap.size ≤ gb221)); have n3_ := Aside0.mk ((by rw [hg]; exact (below_size (by repeat (first | (with_reducible first | exact HB.out | apply below_alloc | apply pw_below_drewN | apply below_drew1) | exact HB.out))) : w.heap.size ≤ gb221)); clear HB; have HB := n0_; have BK221 := n1_; have GW221 := n2_; have GE221 := n3_; clear n0_ n1_ n2_ n3_; clear hb hbox hg; have hcz7_0 : w6.cell? ⟨gb221, 0, none⟩ = some (.string a0_0) := (blk_cell BK221.out 0).trans rfl; have hcz7_1 : w6.cell? ⟨gb221, 1, none⟩ = some (.string a0_1) := (blk_cell BK221.out 1).trans rfl; have hcz7_2 : w6.cell? ⟨gb221, 2, none⟩ = some (.string a0_2) := (blk_cell BK221.out 2).trans rfl; have hcz7_3 : w6.cell? ⟨gb221, 3, none⟩ = some (.string a0_3) := (blk_cell BK221.out 3).trans rfl; have hcz7_4 : w6.cell? ⟨gb221, 4, none⟩ = some (.int .i64 a0_4) := (blk_cell BK221.out 4).trans rfl; have hcz7_5 : w6.cell? ⟨gb221, 5, none⟩ = some (.int .i64 a0_5) := (blk_cell BK221.out 5).trans rfl; have hcz7_6 : w6.cell? ⟨gb221, 6, none⟩ = some (.int .i64 a0_6) := (blk_cell BK221.out 6).trans rfl; have hcz7_7 : w6.cell? ⟨gb221, 7, none⟩ = some (.int .i64 a0_7) := (blk_cell BK221.out 7).trans rfl; have hcz7_8 : w6.cell? ⟨gb221, 8, none⟩ = some (.bool a0_8) := (blk_cell BK221.out 8).trans rfl; have hfz7_0 := blk_frozen BK221.out 0; have hfz7_1 := blk_frozen BK221.out 1; have hfz7_2 := blk_frozen BK221.out 2; have hfz7_3 := blk_frozen BK221.out 3; have hfz7_4 := blk_frozen BK221.out 4; have hfz7_5 := blk_frozen BK221.out 5; have hfz7_6 := blk_frozen BK221.out 6; have hfz7_7 := blk_frozen BK221.out 7; have hfz7_8 := blk_frozen BK221.out 8))
      go_ret
      exact ⟨by first | rfl | (simp [errW_none, errW_some] <;> rfl) | (simp [*, errW_none, errW_some] <;> rfl), by repeat (first | (with_reducible first | exact HB.out | apply below_alloc | apply pw_below_drewN | apply below_drew1 | refine below_set ?_ GE221.out) | exact HB.out)⟩
    · rw [if_neg c5] at H
      have c5b0 : decide (100 < (a0_1.size : Int)) = false := decide_eq_false c5
      have c5b1 : decide (100 < a0_1.size) = false := decide_eq_false (by omega)
      clear c5
      by_cases c8 : (a0_2.size : Int) > 100
      · rw [if_pos c8] at H
        have c8b0 : decide (100 < (a0_2.size : Int)) = true := decide_eq_true c8
        have c8b1 : decide (100 < a0_2.size) = true := decide_eq_true (by omega)
        clear c8
        obtain rfl := Option.some.inj H
        go_enter Try.func8, Try.ntmps8
        go_wp2_with (first | ((with_reducible refine gate_dst (N := 1) rfl ?_); (try (refine gate_guard (by rfl) ?_; dsimp only)); refine box_event ?hg (N := 1) ?hd (cs := #[.string a0_0, .string a0_1, .string a0_2, .string a0_3, .int .i64 a0_4, .int .i64 a0_5, .int .i64 a0_6, .int .i64 a0_7, .bool a0_8]) (t := 23) ?hr ?_; (case hd => rfl); (case hg => rfl); (case hr => first | (go_simp; done) | (go_simp; rfl)); intro gb221 hg w9 hbox hb; have n0_ := Aside0.mk (below_step (by repeat (first | (with_reducible first | exact HB.out | apply below_alloc | apply pw_below_drewN | apply below_drew1) | exact HB.out)) hb); have n1_ := Aside0.mk (hbox); have n2_ := Aside0.mk ((by rw [hg]; exact (below_size (by repeat (first | (with_reducible first | exact HB.out | apply below_alloc | apply pw_below_drewN | apply below_drew1) | exact HB.out))) : w.heap.size ≤ gb221)); have n3_ := Aside0.mk ((by rw [hg]; exact (below_size (by repeat (first | (with_reducible first | exact HB.out | apply below_alloc | apply pw_below_drewN | apply below_drew1) | exact HB.out))) : w.heap.size ≤ gb221)); clear HB; have HB := n0_; have BK221 := n1_; have GW221 := n2_; have GE221 := n3_; clear n0_ n1_ n2_ n3_; clear hb hbox hg; have hcz10_0 : w9.cell? ⟨gb221, 0, none⟩ = some (.string a0_0) := (blk_cell BK221.out 0).trans rfl; have hcz10_1 : w9.cell? ⟨gb221, 1, none⟩ = some (.string a0_1) := (blk_cell BK221.out 1).trans rfl; have hcz10_2 : w9.cell? ⟨gb221, 2, none⟩ = some (.string a0_2) := (blk_cell BK221.out 2).trans rfl; have hcz10_3 : w9.cell? ⟨gb221, 3, none⟩ = some (.string a0_3) := (blk_cell BK221.out 3).trans rfl; have hcz10_4 : w9.cell? ⟨gb221, 4, none⟩ = some (.int .i64 a0_4) := (blk_cell BK221.out 4).trans rfl; have hcz10_5 : w9.cell? ⟨gb221, 5, none⟩ = some (.int .i64 a0_5) := (blk_cell BK221.out 5).trans rfl; have hcz10_6 : w9.cell? ⟨gb221, 6, none⟩ = some (.int .i64 a0_6) := (blk_cell BK221.out 6).trans rfl; have hcz10_7 : w9.cell? ⟨gb221, 7, none⟩ = some (.int .i64 a0_7) := (blk_cell BK221.out 7).trans rfl; have hcz10_8 : w9.cell? ⟨gb221, 8, none⟩ = some (.bool a0_8) := (blk_cell BK221.out 8).trans rfl; have hfz10_0 := blk_frozen BK221.out 0; have hfz10_1 := blk_frozen BK221.out 1; have hfz10_2 := blk_frozen BK221.out 2; have hfz10_3 := blk_frozen BK221.out 3; have hfz10_4 := blk_frozen BK221.out 4; have hfz10_5 := blk_frozen BK221.out 5; have hfz10_6 := blk_frozen BK221.out 6; have hfz10_7 := blk_frozen BK221.out 7; have hfz10_8 := blk_frozen BK221.out 8))
        go_ret
        exact ⟨by first | rfl | (simp [errW_none, errW_some] <;> rfl) | (simp [*, errW_none, errW_some] <;> rfl), by repeat (first | (with_reducible first | exact HB.out | apply below_alloc | apply pw_below_drewN | apply below_drew1 | refine below_set ?_ GE221.out) | exact HB.out)⟩
      · rw [if_neg c8] at H
        have c8b0 : decide (100 < (a0_2.size : Int)) = false := decide_eq_false c8
        have c8b1 : decide (100 < a0_2.size) = false := decide_eq_false (by omega)
        clear c8
        obtain rfl := Option.some.inj H
        go_enter Try.func8, Try.ntmps8
        go_wp2_with (first | ((with_reducible refine gate_dst (N := 1) rfl ?_); (try (refine gate_guard (by rfl) ?_; dsimp only)); refine box_event ?hg (N := 1) ?hd (cs := #[.string a0_0, .string a0_1, .string a0_2, .string a0_3, .int .i64 a0_4, .int .i64 a0_5, .int .i64 a0_6, .int .i64 a0_7, .bool a0_8]) (t := 23) ?hr ?_; (case hd => rfl); (case hg => rfl); (case hr => first | (go_simp; done) | (go_simp; rfl)); intro gb221 hg w11 hbox hb; have n0_ := Aside0.mk (below_step (by repeat (first | (with_reducible first | exact HB.out | apply below_alloc | apply pw_below_drewN | apply below_drew1) | exact HB.out)) hb); have n1_ := Aside0.mk (hbox); have n2_ := Aside0.mk ((by rw [hg]; exact (below_size (by repeat (first | (with_reducible first | exact HB.out | apply below_alloc | apply pw_below_drewN | apply below_drew1) | exact HB.out))) : w.heap.size ≤ gb221)); have n3_ := Aside0.mk ((by rw [hg]; exact (below_size (by repeat (first | (with_reducible first | exact HB.out | apply below_alloc | apply pw_below_drewN | apply below_drew1) | exact HB.out))) : w.heap.size ≤ gb221)); clear HB; have HB := n0_; have BK221 := n1_; have GW221 := n2_; have GE221 := n3_; clear n0_ n1_ n2_ n3_; clear hb hbox hg; have hcz12_0 : w11.cell? ⟨gb221, 0, none⟩ = some (.string a0_0) := (blk_cell BK221.out 0).trans rfl; have hcz12_1 : w11.cell? ⟨gb221, 1, none⟩ = some (.string a0_1) := (blk_cell BK221.out 1).trans rfl; have hcz12_2 : w11.cell? ⟨gb221, 2, none⟩ = some (.string a0_2) := (blk_cell BK221.out 2).trans rfl; have hcz12_3 : w11.cell? ⟨gb221, 3, none⟩ = some (.string a0_3) := (blk_cell BK221.out 3).trans rfl; have hcz12_4 : w11.cell? ⟨gb221, 4, none⟩ = some (.int .i64 a0_4) := (blk_cell BK221.out 4).trans rfl; have hcz12_5 : w11.cell? ⟨gb221, 5, none⟩ = some (.int .i64 a0_5) := (blk_cell BK221.out 5).trans rfl; have hcz12_6 : w11.cell? ⟨gb221, 6, none⟩ = some (.int .i64 a0_6) := (blk_cell BK221.out 6).trans rfl; have hcz12_7 : w11.cell? ⟨gb221, 7, none⟩ = some (.int .i64 a0_7) := (blk_cell BK221.out 7).trans rfl; have hcz12_8 : w11.cell? ⟨gb221, 8, none⟩ = some (.bool a0_8) := (blk_cell BK221.out 8).trans rfl; have hfz12_0 := blk_frozen BK221.out 0; have hfz12_1 := blk_frozen BK221.out 1; have hfz12_2 := blk_frozen BK221.out 2; have hfz12_3 := blk_frozen BK221.out 3; have hfz12_4 := blk_frozen BK221.out 4; have hfz12_5 := blk_frozen BK221.out 5; have hfz12_6 := blk_frozen BK221.out 6; have hfz12_7 := blk_frozen BK221.out 7; have hfz12_8 := blk_frozen BK221.out 8))
        go_ret
        exact ⟨by first | rfl | (simp [errW_none, errW_some] <;> rfl) | (simp [*, errW_none, errW_some] <;> rfl), by repeat (first | (with_reducible first | exact HB.out | apply below_alloc | apply pw_below_drewN | apply below_drew1 | refine below_set ?_ GE221.out) | exact HB.out)⟩

/-! ### supercargolaw34_heavy: function 9 -/
def supercargolaw34_heavy.l0 : Nat → List (S40) → Int → Option (Bool)
  | 0, _, _ => none
  | k + 1, x0, x5 => if x5 < (x0.length : Int) then (if 0 ≤ x5 then (if (((rd_T40 x0 x5).f1).size : Int) > 100 then (some true) else (supercargolaw34_heavy.l0 k x0 (wrap64 (x5 + 1)))) else (none)) else (some false)
def supercargolaw34_heavy.f (k : Nat) (l0 : List (S40)) (a1 : Int) : Option (Bool) := if (l0.length : Int) > a1 then (some true) else (supercargolaw34_heavy.l0 k l0 0)
theorem supercargolaw34_heavy.mono_l : ∀ k, (∀ y0 y1, LeO (supercargolaw34_heavy.l0 k y0 y1) (supercargolaw34_heavy.l0 (k + 1) y0 y1))
  | 0 => fun _ _ r h => by simp [supercargolaw34_heavy.l0] at h
  | k + 1 => by
    have ih0 := supercargolaw34_heavy.mono_l k
    · intro y0 y1
      unfold supercargolaw34_heavy.l0
      repeat' first
      | (with_reducible exact ih0 _ _)
      | (with_reducible exact LeO.refl _)
      | (with_reducible exact LeO.none _)
      | (with_reducible refine LeO.ite ?_ ?_)
      | (with_reducible refine LeO.bind ?_ (fun _ => ?_))
      | exact ih0 _ _
      | exact LeO.none _
      | refine LeO.ite ?_ ?_
      | refine LeO.bind ?_ (fun _ => ?_)
theorem supercargolaw34_heavy.mono : ∀ a0 a1 k, LeO (supercargolaw34_heavy.f k a0 a1) (supercargolaw34_heavy.f (k + 1) a0 a1) := by
  intro a0 a1 k
  have ih0 := supercargolaw34_heavy.mono_l k
  unfold supercargolaw34_heavy.f
  repeat' first
      | (with_reducible exact ih0 _ _)
      | (with_reducible exact LeO.refl _)
      | (with_reducible exact LeO.none _)
      | (with_reducible refine LeO.ite ?_ ?_)
      | (with_reducible refine LeO.bind ?_ (fun _ => ?_))
      | exact ih0 _ _
      | exact LeO.none _
      | refine LeO.ite ?_ ?_
      | refine LeO.bind ?_ (fun _ => ?_)
set_option maxHeartbeats 8000000 in
set_option maxRecDepth 100000 in
theorem supercargolaw34_heavy.calls (k : Nat) (A0 : Option Addr) (c0 : Nat) (l0 : List (S40)) (a1 : Int) (r : Bool) (w : World) (hr0 : Kd.C k40 w A0 l0.length l0) (hc0 : l0.length ≤ c0) (h : supercargolaw34_heavy.f k l0 a1 = some r) :
    Calls Try.prog 9 #[.slice A0 l0.length c0, .int .i64 a1] w fun e w' => e = .returned (.bool r) ∧ Drawn0 w w' := by
  have HR0 := Aside0.mk hr0
  have HC0 := Aside0.mk hc0
  clear hr0 hc0
  have H : (if (l0.length : Int) > a1 then (some true) else (supercargolaw34_heavy.l0 k l0 0)) = some r := h
  clear h
  by_cases c3 : (l0.length : Int) > a1
  · rw [if_pos c3] at H
    have c3b0 : decide (a1 < (l0.length : Int)) = true := decide_eq_true c3
    clear c3
    obtain rfl := Option.some.inj H
    go_enter Try.func9, Try.ntmps9
    go_wp2
    go_ret
    exact ⟨by first | rfl | (simp; done) | (simp [*]; done), by repeat (first | exact Drawn0.refl _ | apply Drawn0.step)⟩
  · rw [if_neg c3] at H
    have c3b0 : decide (a1 < (l0.length : Int)) = false := decide_eq_false c3
    clear c3
    have H' := Aside0.mk H
    clear H
    go_enter Try.func9, Try.ntmps9
    go_wp2
    go_loopg [5] k (fun kq v5 w' => ∃ (x5_1 : Int), v5 = .int .i64 x5_1 ∧ Aside0 (supercargolaw34_heavy.l0 kq l0 x5_1 = some r) ∧ Aside0 (kq ≤ k) ∧ Drawn0 w w')
    case atStart => exact ⟨(0), (by first | rfl | (simp; done) | (simp [*]; done)), H', ⟨Nat.le_refl _⟩, by repeat (first | exact Drawn0.refl _ | apply Drawn0.step)⟩
    case round =>
      clear H'
      try clear p2
      try clear c3
      try clear c3b0
      obtain ⟨x5_1, rfl, HA, HK1, ⟨m1, rfl⟩⟩ := hrel
      cases gk with
      | zero => exact absurd HA.out (by simp [supercargolaw34_heavy.l0])
      | succ k1 =>
        have H := HA.out
        clear HA
        simp only [supercargolaw34_heavy.l0] at H
        by_cases c4 : x5_1 < (l0.length : Int)
        · rw [if_pos c4] at H
          have c4b0 : decide (x5_1 < (l0.length : Int)) = true := decide_eq_true c4
          clear c4
          by_cases c5 : 0 ≤ x5_1
          · rw [if_pos c5] at H
            have c5b0 : decide (0 ≤ x5_1) = true := decide_eq_true c5
            clear c5
            by_cases c6 : (((rd_T40 l0 x5_1).f1).size : Int) > 100
            · rw [if_pos c6] at H
              have c6b0 : decide (100 < (((rd_T40 l0 x5_1).f1).size : Int)) = true := decide_eq_true c6
              have c6b1 : decide (100 < ((rd_T40 l0 x5_1).f1).size) = true := decide_eq_true (by omega)
              clear c6
              obtain rfl := Option.some.inj H
              have p222 : 0 ≤ (x5_1 : Int) := of_decide_eq_true (by first | (with_reducible assumption) | assumption)
              have q222 : x5_1 < (l0.length : Int) := of_decide_eq_true (by first | (with_reducible assumption) | assumption)
              obtain ⟨ad222, e222, hx222_0, hx222_1, hx222_2, hx222_3⟩ := at_T40 HR0.out x5_1 p222 q222
              cases e222
              replace p222 := eq_true p222
              replace q222 := eq_true q222
              go_wp2
              go_ret
              exact ⟨by first | rfl | (simp; done) | (simp [*]; done), by repeat (first | exact Drawn0.refl _ | apply Drawn0.step)⟩
            · rw [if_neg c6] at H
              have c6b0 : decide (100 < (((rd_T40 l0 x5_1).f1).size : Int)) = false := decide_eq_false c6
              have c6b1 : decide (100 < ((rd_T40 l0 x5_1).f1).size) = false := decide_eq_false (by omega)
              clear c6
              have H' := Aside0.mk H
              clear H
              have p222 : 0 ≤ (x5_1 : Int) := of_decide_eq_true (by first | (with_reducible assumption) | assumption)
              have q222 : x5_1 < (l0.length : Int) := of_decide_eq_true (by first | (with_reducible assumption) | assumption)
              obtain ⟨ad222, e222, hx222_0, hx222_1, hx222_2, hx222_3⟩ := at_T40 HR0.out x5_1 p222 q222
              cases e222
              replace p222 := eq_true p222
              replace q222 := eq_true q222
              go_wp2
              go_roundg k1
              case measure => have := HK1.out; omega
              case rel => exact ⟨(wrap64 (x5_1 + 1)), (by first | rfl | (simp; done) | (simp [*]; done)), H', ⟨by have := HK1.out; omega⟩, by repeat (first | exact Drawn0.refl _ | apply Drawn0.step)⟩
          · rw [if_neg c5] at H
            exact absurd H (by simp)
        · rw [if_neg c4] at H
          have c4b0 : decide (x5_1 < (l0.length : Int)) = false := decide_eq_false c4
          clear c4
          obtain rfl := Option.some.inj H
          go_wp2
          go_ret
          exact ⟨by first | rfl | (simp; done) | (simp [*]; done), by repeat (first | exact Drawn0.refl _ | apply Drawn0.step)⟩
/-! ### supercargoref06_Name: function 24 -/
def supercargoref06_Name.l0 : Nat → ByteArray → Int → Option (Bool)
  | 0, _, _ => none
  | k + 1, x0, x3 => if x3 < (x0.size : Int) then (if 0 ≤ x3 then (if (bt x0 x3) ≥ 97 then (if (bt x0 x3) ≤ 122 then (supercargoref06_Name.l0 k x0 (wrap64 (x3 + 1))) else (if (bt x0 x3) ≥ 48 then (if (bt x0 x3) ≤ 57 then (supercargoref06_Name.l0 k x0 (wrap64 (x3 + 1))) else (if ((bt x0 x3) = 45) then (supercargoref06_Name.l0 k x0 (wrap64 (x3 + 1))) else (some false))) else (if ((bt x0 x3) = 45) then (supercargoref06_Name.l0 k x0 (wrap64 (x3 + 1))) else (some false)))) else (if (bt x0 x3) ≥ 48 then (if (bt x0 x3) ≤ 57 then (supercargoref06_Name.l0 k x0 (wrap64 (x3 + 1))) else (if ((bt x0 x3) = 45) then (supercargoref06_Name.l0 k x0 (wrap64 (x3 + 1))) else (some false))) else (if ((bt x0 x3) = 45) then (supercargoref06_Name.l0 k x0 (wrap64 (x3 + 1))) else (some false)))) else (none)) else (if (x0.size : Int) ≥ 1 then (some (decide ((x0.size : Int) ≤ 16))) else (some false))
def supercargoref06_Name.f (k : Nat) (a0 : ByteArray) : Option (Bool) := supercargoref06_Name.l0 k a0 0
theorem supercargoref06_Name.mono_l : ∀ k, (∀ y0 y1, LeO (supercargoref06_Name.l0 k y0 y1) (supercargoref06_Name.l0 (k + 1) y0 y1))
  | 0 => fun _ _ r h => by simp [supercargoref06_Name.l0] at h
  | k + 1 => by
    have ih0 := supercargoref06_Name.mono_l k
    · intro y0 y1
      unfold supercargoref06_Name.l0
      repeat' first
      | (with_reducible exact ih0 _ _)
      | (with_reducible exact LeO.refl _)
      | (with_reducible exact LeO.none _)
      | (with_reducible refine LeO.ite ?_ ?_)
      | (with_reducible refine LeO.bind ?_ (fun _ => ?_))
      | exact ih0 _ _
      | exact LeO.none _
      | refine LeO.ite ?_ ?_
      | refine LeO.bind ?_ (fun _ => ?_)
theorem supercargoref06_Name.mono : ∀ a0 k, LeO (supercargoref06_Name.f k a0) (supercargoref06_Name.f (k + 1) a0) := by
  intro a0 k
  have ih0 := supercargoref06_Name.mono_l k
  unfold supercargoref06_Name.f
  repeat' first
      | (with_reducible exact ih0 _ _)
      | (with_reducible exact LeO.refl _)
      | (with_reducible exact LeO.none _)
      | (with_reducible refine LeO.ite ?_ ?_)
      | (with_reducible refine LeO.bind ?_ (fun _ => ?_))
      | exact ih0 _ _
      | exact LeO.none _
      | refine LeO.ite ?_ ?_
      | refine LeO.bind ?_ (fun _ => ?_)
set_option maxHeartbeats 8000000 in
set_option maxRecDepth 100000 in
theorem supercargoref06_Name.calls (k : Nat) (a0 : ByteArray) (r : Bool) (w : World) (h : supercargoref06_Name.f k a0 = some r) :
    Calls Try.prog 24 #[.string a0] w fun e w' => e = .returned (.bool r) ∧ Drawn0 w w' := by
  have H : (supercargoref06_Name.l0 k a0 0) = some r := h
  clear h
  have H' := Aside0.mk H
  clear H
  go_enter Try.func24, Try.ntmps24
  go_wp2
  go_loopg [3] k (fun kq v3 w' => ∃ (x3_1 : Int), v3 = .int .i64 x3_1 ∧ Aside0 (supercargoref06_Name.l0 kq a0 x3_1 = some r) ∧ Aside0 (kq ≤ k) ∧ Drawn0 w w')
  case atStart => exact ⟨(0), (by first | rfl | (simp; done) | (simp [*]; done)), H', ⟨Nat.le_refl _⟩, by repeat (first | exact Drawn0.refl _ | apply Drawn0.step)⟩
  case round =>
    clear H'
    obtain ⟨x3_1, rfl, HA, HK1, ⟨m1, rfl⟩⟩ := hrel
    cases gk with
    | zero => exact absurd HA.out (by simp [supercargoref06_Name.l0])
    | succ k1 =>
      have H := HA.out
      clear HA
      simp only [supercargoref06_Name.l0] at H
      by_cases c2 : x3_1 < (a0.size : Int)
      · rw [if_pos c2] at H
        have c2b0 : decide (x3_1 < (a0.size : Int)) = true := decide_eq_true c2
        clear c2
        by_cases c3 : 0 ≤ x3_1
        · rw [if_pos c3] at H
          have c3b0 : decide (0 ≤ x3_1) = true := decide_eq_true c3
          clear c3
          by_cases c5 : (bt a0 x3_1) ≥ 97
          · rw [if_pos c5] at H
            have c5b0 : decide (97 ≤ (bt a0 x3_1)) = true := decide_eq_true c5
            clear c5
            by_cases c6 : (bt a0 x3_1) ≤ 122
            · rw [if_pos c6] at H
              have c6b0 : decide ((bt a0 x3_1) ≤ 122) = true := decide_eq_true c6
              clear c6
              have H' := Aside0.mk H
              clear H
              have p4 : 0 ≤ (x3_1 : Int) := of_decide_eq_true (by first | (with_reducible assumption) | assumption)
              have q4 : x3_1 < (a0.size : Int) := of_decide_eq_true (by first | (with_reducible assumption) | assumption)
              have hx4 := bt_at a0 x3_1
              replace p4 := eq_true p4
              replace q4 := eq_true q4
              go_wp2
              go_roundg k1
              case measure => have := HK1.out; omega
              case rel => exact ⟨(wrap64 (x3_1 + 1)), (by first | rfl | (simp; done) | (simp [*]; done)), H', ⟨by have := HK1.out; omega⟩, by repeat (first | exact Drawn0.refl _ | apply Drawn0.step)⟩
            · rw [if_neg c6] at H
              have c6b0 : decide ((bt a0 x3_1) ≤ 122) = false := decide_eq_false c6
              clear c6
              by_cases c7 : (bt a0 x3_1) ≥ 48
              · rw [if_pos c7] at H
                have c7b0 : decide (48 ≤ (bt a0 x3_1)) = true := decide_eq_true c7
                clear c7
                by_cases c8 : (bt a0 x3_1) ≤ 57
                · rw [if_pos c8] at H
                  have c8b0 : decide ((bt a0 x3_1) ≤ 57) = true := decide_eq_true c8
                  clear c8
                  have H' := Aside0.mk H
                  clear H
                  have p4 : 0 ≤ (x3_1 : Int) := of_decide_eq_true (by first | (with_reducible assumption) | assumption)
                  have q4 : x3_1 < (a0.size : Int) := of_decide_eq_true (by first | (with_reducible assumption) | assumption)
                  have hx4 := bt_at a0 x3_1
                  replace p4 := eq_true p4
                  replace q4 := eq_true q4
                  go_wp2
                  go_roundg k1
                  case measure => have := HK1.out; omega
                  case rel => exact ⟨(wrap64 (x3_1 + 1)), (by first | rfl | (simp; done) | (simp [*]; done)), H', ⟨by have := HK1.out; omega⟩, by repeat (first | exact Drawn0.refl _ | apply Drawn0.step)⟩
                · rw [if_neg c8] at H
                  have c8b0 : decide ((bt a0 x3_1) ≤ 57) = false := decide_eq_false c8
                  clear c8
                  by_cases c9 : ((bt a0 x3_1) = 45)
                  · rw [if_pos c9] at H
                    have c9b0 : ((bt a0 x3_1) == 45) = true := beq_iff_eq.mpr c9
                    have c9b1 : ((bt a0 x3_1) != 45) = false := bne_eq_false_iff_eq.mpr c9
                    clear c9
                    have H' := Aside0.mk H
                    clear H
                    have p4 : 0 ≤ (x3_1 : Int) := of_decide_eq_true (by first | (with_reducible assumption) | assumption)
                    have q4 : x3_1 < (a0.size : Int) := of_decide_eq_true (by first | (with_reducible assumption) | assumption)
                    have hx4 := bt_at a0 x3_1
                    replace p4 := eq_true p4
                    replace q4 := eq_true q4
                    go_wp2
                    go_roundg k1
                    case measure => have := HK1.out; omega
                    case rel => exact ⟨(wrap64 (x3_1 + 1)), (by first | rfl | (simp; done) | (simp [*]; done)), H', ⟨by have := HK1.out; omega⟩, by repeat (first | exact Drawn0.refl _ | apply Drawn0.step)⟩
                  · rw [if_neg c9] at H
                    have c9b0 : ((bt a0 x3_1) == 45) = false := beq_eq_false_iff_ne.mpr c9
                    have c9b1 : ((bt a0 x3_1) != 45) = true := bne_iff_ne.mpr c9
                    obtain rfl := Option.some.inj H
                    have p4 : 0 ≤ (x3_1 : Int) := of_decide_eq_true (by first | (with_reducible assumption) | assumption)
                    have q4 : x3_1 < (a0.size : Int) := of_decide_eq_true (by first | (with_reducible assumption) | assumption)
                    have hx4 := bt_at a0 x3_1
                    replace p4 := eq_true p4
                    replace q4 := eq_true q4
                    go_wp2
                    go_ret
                    exact ⟨by first | rfl | (simp; done) | (simp [*]; done), by repeat (first | exact Drawn0.refl _ | apply Drawn0.step)⟩
              · rw [if_neg c7] at H
                have c7b0 : decide (48 ≤ (bt a0 x3_1)) = false := decide_eq_false c7
                clear c7
                by_cases c10 : ((bt a0 x3_1) = 45)
                · rw [if_pos c10] at H
                  have c10b0 : ((bt a0 x3_1) == 45) = true := beq_iff_eq.mpr c10
                  have c10b1 : ((bt a0 x3_1) != 45) = false := bne_eq_false_iff_eq.mpr c10
                  clear c10
                  have H' := Aside0.mk H
                  clear H
                  have p4 : 0 ≤ (x3_1 : Int) := of_decide_eq_true (by first | (with_reducible assumption) | assumption)
                  have q4 : x3_1 < (a0.size : Int) := of_decide_eq_true (by first | (with_reducible assumption) | assumption)
                  have hx4 := bt_at a0 x3_1
                  replace p4 := eq_true p4
                  replace q4 := eq_true q4
                  go_wp2
                  go_roundg k1
                  case measure => have := HK1.out; omega
                  case rel => exact ⟨(wrap64 (x3_1 + 1)), (by first | rfl | (simp; done) | (simp [*]; done)), H', ⟨by have := HK1.out; omega⟩, by repeat (first | exact Drawn0.refl _ | apply Drawn0.step)⟩
                · rw [if_neg c10] at H
                  have c10b0 : ((bt a0 x3_1) == 45) = false := beq_eq_false_iff_ne.mpr c10
                  have c10b1 : ((bt a0 x3_1) != 45) = true := bne_iff_ne.mpr c10
                  obtain rfl := Option.some.inj H
                  have p4 : 0 ≤ (x3_1 : Int) := of_decide_eq_true (by first | (with_reducible assumption) | assumption)
                  have q4 : x3_1 < (a0.size : Int) := of_decide_eq_true (by first | (with_reducible assumption) | assumption)
                  have hx4 := bt_at a0 x3_1
                  replace p4 := eq_true p4
                  replace q4 := eq_true q4
                  go_wp2
                  go_ret
                  exact ⟨by first | rfl | (simp; done) | (simp [*]; done), by repeat (first | exact Drawn0.refl _ | apply Drawn0.step)⟩
          · rw [if_neg c5] at H
            have c5b0 : decide (97 ≤ (bt a0 x3_1)) = false := decide_eq_false c5
            clear c5
            by_cases c11 : (bt a0 x3_1) ≥ 48
            · rw [if_pos c11] at H
              have c11b0 : decide (48 ≤ (bt a0 x3_1)) = true := decide_eq_true c11
              clear c11
              by_cases c12 : (bt a0 x3_1) ≤ 57
              · rw [if_pos c12] at H
                have c12b0 : decide ((bt a0 x3_1) ≤ 57) = true := decide_eq_true c12
                clear c12
                have H' := Aside0.mk H
                clear H
                have p4 : 0 ≤ (x3_1 : Int) := of_decide_eq_true (by first | (with_reducible assumption) | assumption)
                have q4 : x3_1 < (a0.size : Int) := of_decide_eq_true (by first | (with_reducible assumption) | assumption)
                have hx4 := bt_at a0 x3_1
                replace p4 := eq_true p4
                replace q4 := eq_true q4
                go_wp2
                go_roundg k1
                case measure => have := HK1.out; omega
                case rel => exact ⟨(wrap64 (x3_1 + 1)), (by first | rfl | (simp; done) | (simp [*]; done)), H', ⟨by have := HK1.out; omega⟩, by repeat (first | exact Drawn0.refl _ | apply Drawn0.step)⟩
              · rw [if_neg c12] at H
                have c12b0 : decide ((bt a0 x3_1) ≤ 57) = false := decide_eq_false c12
                clear c12
                by_cases c13 : ((bt a0 x3_1) = 45)
                · rw [if_pos c13] at H
                  have c13b0 : ((bt a0 x3_1) == 45) = true := beq_iff_eq.mpr c13
                  have c13b1 : ((bt a0 x3_1) != 45) = false := bne_eq_false_iff_eq.mpr c13
                  clear c13
                  have H' := Aside0.mk H
                  clear H
                  have p4 : 0 ≤ (x3_1 : Int) := of_decide_eq_true (by first | (with_reducible assumption) | assumption)
                  have q4 : x3_1 < (a0.size : Int) := of_decide_eq_true (by first | (with_reducible assumption) | assumption)
                  have hx4 := bt_at a0 x3_1
                  replace p4 := eq_true p4
                  replace q4 := eq_true q4
                  go_wp2
                  go_roundg k1
                  case measure => have := HK1.out; omega
                  case rel => exact ⟨(wrap64 (x3_1 + 1)), (by first | rfl | (simp; done) | (simp [*]; done)), H', ⟨by have := HK1.out; omega⟩, by repeat (first | exact Drawn0.refl _ | apply Drawn0.step)⟩
                · rw [if_neg c13] at H
                  have c13b0 : ((bt a0 x3_1) == 45) = false := beq_eq_false_iff_ne.mpr c13
                  have c13b1 : ((bt a0 x3_1) != 45) = true := bne_iff_ne.mpr c13
                  obtain rfl := Option.some.inj H
                  have p4 : 0 ≤ (x3_1 : Int) := of_decide_eq_true (by first | (with_reducible assumption) | assumption)
                  have q4 : x3_1 < (a0.size : Int) := of_decide_eq_true (by first | (with_reducible assumption) | assumption)
                  have hx4 := bt_at a0 x3_1
                  replace p4 := eq_true p4
                  replace q4 := eq_true q4
                  go_wp2
                  go_ret
                  exact ⟨by first | rfl | (simp; done) | (simp [*]; done), by repeat (first | exact Drawn0.refl _ | apply Drawn0.step)⟩
            · rw [if_neg c11] at H
              have c11b0 : decide (48 ≤ (bt a0 x3_1)) = false := decide_eq_false c11
              clear c11
              by_cases c14 : ((bt a0 x3_1) = 45)
              · rw [if_pos c14] at H
                have c14b0 : ((bt a0 x3_1) == 45) = true := beq_iff_eq.mpr c14
                have c14b1 : ((bt a0 x3_1) != 45) = false := bne_eq_false_iff_eq.mpr c14
                clear c14
                have H' := Aside0.mk H
                clear H
                have p4 : 0 ≤ (x3_1 : Int) := of_decide_eq_true (by first | (with_reducible assumption) | assumption)
                have q4 : x3_1 < (a0.size : Int) := of_decide_eq_true (by first | (with_reducible assumption) | assumption)
                have hx4 := bt_at a0 x3_1
                replace p4 := eq_true p4
                replace q4 := eq_true q4
                go_wp2
                go_roundg k1
                case measure => have := HK1.out; omega
                case rel => exact ⟨(wrap64 (x3_1 + 1)), (by first | rfl | (simp; done) | (simp [*]; done)), H', ⟨by have := HK1.out; omega⟩, by repeat (first | exact Drawn0.refl _ | apply Drawn0.step)⟩
              · rw [if_neg c14] at H
                have c14b0 : ((bt a0 x3_1) == 45) = false := beq_eq_false_iff_ne.mpr c14
                have c14b1 : ((bt a0 x3_1) != 45) = true := bne_iff_ne.mpr c14
                obtain rfl := Option.some.inj H
                have p4 : 0 ≤ (x3_1 : Int) := of_decide_eq_true (by first | (with_reducible assumption) | assumption)
                have q4 : x3_1 < (a0.size : Int) := of_decide_eq_true (by first | (with_reducible assumption) | assumption)
                have hx4 := bt_at a0 x3_1
                replace p4 := eq_true p4
                replace q4 := eq_true q4
                go_wp2
                go_ret
                exact ⟨by first | rfl | (simp; done) | (simp [*]; done), by repeat (first | exact Drawn0.refl _ | apply Drawn0.step)⟩
        · rw [if_neg c3] at H
          exact absurd H (by simp)
      · rw [if_neg c2] at H
        have c2b0 : decide (x3_1 < (a0.size : Int)) = false := decide_eq_false c2
        clear c2
        by_cases c15 : (a0.size : Int) ≥ 1
        · rw [if_pos c15] at H
          have c15b0 : decide (1 ≤ (a0.size : Int)) = true := decide_eq_true c15
          have c15b1 : decide (1 ≤ a0.size) = true := decide_eq_true (by omega)
          clear c15
          obtain rfl := Option.some.inj H
          go_wp2
          go_ret
          exact ⟨by first | rfl | (simp; done) | (simp [*]; done), by repeat (first | exact Drawn0.refl _ | apply Drawn0.step)⟩
        · rw [if_neg c15] at H
          have c15b0 : decide (1 ≤ (a0.size : Int)) = false := decide_eq_false c15
          have c15b1 : decide (1 ≤ a0.size) = false := decide_eq_false (by omega)
          clear c15
          obtain rfl := Option.some.inj H
          go_wp2
          go_ret
          exact ⟨by first | rfl | (simp; done) | (simp [*]; done), by repeat (first | exact Drawn0.refl _ | apply Drawn0.step)⟩

/-! ### supercargoref30_Bounds: function 25 -/
def supercargoref30_Bounds.f (a0_0 : ByteArray) (a0_1 : ByteArray) (a0_2 : ByteArray) (a0_3 : ByteArray) (a0_4 : ByteArray) (a0_5 : ByteArray) (a0_6 : ByteArray) (a0_7 : ByteArray) (a0_8 : Int) (a0_9 : Int) (a0_10 : Int) (a0_11 : Int) (a0_12 : Int) (a0_13 : Int) (a0_14 : Int) (a0_15 : Bool) (a0_16 : Bool) (l0_17 : List (S143)) : Option (Bool) := if a0_8 ≥ 1 then (if a0_8 ≤ 1099511627776 then (if a0_9 ≥ 0 then (if a0_9 ≤ 1000 then (if a0_10 ≥ 0 then (if a0_10 ≤ 1000 then (if a0_12 ≥ 0 then (some (decide (a0_12 ≤ 1048576))) else (some false)) else (some false)) else (some false)) else (some false)) else (some false)) else (some false)) else (some false)
set_option maxHeartbeats 8000000 in
set_option maxRecDepth 100000 in
theorem supercargoref30_Bounds.calls (a0_0 : ByteArray) (a0_1 : ByteArray) (a0_2 : ByteArray) (a0_3 : ByteArray) (a0_4 : ByteArray) (a0_5 : ByteArray) (a0_6 : ByteArray) (a0_7 : ByteArray) (a0_8 : Int) (a0_9 : Int) (a0_10 : Int) (a0_11 : Int) (a0_12 : Int) (a0_13 : Int) (a0_14 : Int) (a0_15 : Bool) (a0_16 : Bool) (A0_17 : Option Addr) (c0_17 : Nat) (l0_17 : List (S143)) (r : Bool) (w : World) (hr0_17 : Kd.C k143 w A0_17 l0_17.length l0_17) (hc0_17 : l0_17.length ≤ c0_17) (h : supercargoref30_Bounds.f a0_0 a0_1 a0_2 a0_3 a0_4 a0_5 a0_6 a0_7 a0_8 a0_9 a0_10 a0_11 a0_12 a0_13 a0_14 a0_15 a0_16 l0_17 = some r) :
    Calls Try.prog 25 #[.agg #[.string a0_0, .string a0_1, .string a0_2, .string a0_3, .string a0_4, .string a0_5, .string a0_6, .string a0_7, .int .i64 a0_8, .int .i64 a0_9, .int .i64 a0_10, .int .i64 a0_11, .int .i64 a0_12, .int .i64 a0_13, .int .i64 a0_14, .bool a0_15, .bool a0_16, .slice A0_17 l0_17.length c0_17]] w fun e w' => e = .returned (.bool r) ∧ Below w.heap.size w w' := by
  have hu32 := Try.underlying32
  have HR0_17 := Aside0.mk hr0_17
  have HC0_17 := Aside0.mk hc0_17
  clear hr0_17 hc0_17
  have HB := Aside0.mk (Below.refl w.heap.size w)
  have H : (if a0_8 ≥ 1 then (if a0_8 ≤ 1099511627776 then (if a0_9 ≥ 0 then (if a0_9 ≤ 1000 then (if a0_10 ≥ 0 then (if a0_10 ≤ 1000 then (if a0_12 ≥ 0 then (some (decide (a0_12 ≤ 1048576))) else (some false)) else (some false)) else (some false)) else (some false)) else (some false)) else (some false)) else (some false)) = some r := h
  clear h
  by_cases c2 : a0_8 ≥ 1
  · rw [if_pos c2] at H
    have c2b0 : decide (1 ≤ a0_8) = true := decide_eq_true c2
    clear c2
    by_cases c3 : a0_8 ≤ 1099511627776
    · rw [if_pos c3] at H
      have c3b0 : decide (a0_8 ≤ 1099511627776) = true := decide_eq_true c3
      clear c3
      by_cases c4 : a0_9 ≥ 0
      · rw [if_pos c4] at H
        have c4b0 : decide (0 ≤ a0_9) = true := decide_eq_true c4
        clear c4
        by_cases c5 : a0_9 ≤ 1000
        · rw [if_pos c5] at H
          have c5b0 : decide (a0_9 ≤ 1000) = true := decide_eq_true c5
          clear c5
          by_cases c6 : a0_10 ≥ 0
          · rw [if_pos c6] at H
            have c6b0 : decide (0 ≤ a0_10) = true := decide_eq_true c6
            clear c6
            by_cases c7 : a0_10 ≤ 1000
            · rw [if_pos c7] at H
              have c7b0 : decide (a0_10 ≤ 1000) = true := decide_eq_true c7
              clear c7
              by_cases c8 : a0_12 ≥ 0
              · rw [if_pos c8] at H
                have c8b0 : decide (0 ≤ a0_12) = true := decide_eq_true c8
                clear c8
                obtain rfl := Option.some.inj H
                go_enter Try.func25, Try.ntmps25
                go_wp2_with (first | ((with_reducible refine gate_dst (N := 1) rfl ?_); refine box_event ?hg (N := 1) ?hd (cs := #[.string a0_0, .string a0_1, .string a0_2, .string a0_3, .string a0_4, .string a0_5, .string a0_6, .string a0_7, .int .i64 a0_8, .int .i64 a0_9, .int .i64 a0_10, .int .i64 a0_11, .int .i64 a0_12, .int .i64 a0_13, .int .i64 a0_14, .bool a0_15, .bool a0_16, .slice A0_17 l0_17.length c0_17]) (t := 32) ?hr ?_; (case hd => rfl); (case hg => rfl); (case hr => first | (go_simp; done) | (go_simp; rfl)); intro gb223 hg w9 hbox hb; have n0_ := Aside0.mk (below_step (by repeat (first | (with_reducible first | exact HB.out | apply below_alloc | apply pw_below_drewN | apply below_drew1) | exact HB.out)) hb); have n1_ := Aside0.mk (hbox); have n2_ := Aside0.mk ((by rw [hg]; exact (below_size (by repeat (first | (with_reducible first | exact HB.out | apply below_alloc | apply pw_below_drewN | apply below_drew1) | exact HB.out))) : w.heap.size ≤ gb223)); have n3_ := Aside0.mk ((by rw [hg]; exact (below_size (by repeat (first | (with_reducible first | exact HB.out | apply below_alloc | apply pw_below_drewN | apply below_drew1) | exact HB.out))) : w.heap.size ≤ gb223)); clear HB; have HB := n0_; have BK223 := n1_; have GW223 := n2_; have GE223 := n3_; clear n0_ n1_ n2_ n3_; clear hb hbox hg; have hcz10_0 : w9.cell? ⟨gb223, 0, none⟩ = some (.string a0_0) := (blk_cell BK223.out 0).trans rfl; have hcz10_1 : w9.cell? ⟨gb223, 1, none⟩ = some (.string a0_1) := (blk_cell BK223.out 1).trans rfl; have hcz10_2 : w9.cell? ⟨gb223, 2, none⟩ = some (.string a0_2) := (blk_cell BK223.out 2).trans rfl; have hcz10_3 : w9.cell? ⟨gb223, 3, none⟩ = some (.string a0_3) := (blk_cell BK223.out 3).trans rfl; have hcz10_4 : w9.cell? ⟨gb223, 4, none⟩ = some (.string a0_4) := (blk_cell BK223.out 4).trans rfl; have hcz10_5 : w9.cell? ⟨gb223, 5, none⟩ = some (.string a0_5) := (blk_cell BK223.out 5).trans rfl; have hcz10_6 : w9.cell? ⟨gb223, 6, none⟩ = some (.string a0_6) := (blk_cell BK223.out 6).trans rfl; have hcz10_7 : w9.cell? ⟨gb223, 7, none⟩ = some (.string a0_7) := (blk_cell BK223.out 7).trans rfl; have hcz10_8 : w9.cell? ⟨gb223, 8, none⟩ = some (.int .i64 a0_8) := (blk_cell BK223.out 8).trans rfl; have hcz10_9 : w9.cell? ⟨gb223, 9, none⟩ = some (.int .i64 a0_9) := (blk_cell BK223.out 9).trans rfl; have hcz10_10 : w9.cell? ⟨gb223, 10, none⟩ = some (.int .i64 a0_10) := (blk_cell BK223.out 10).trans rfl; have hcz10_11 : w9.cell? ⟨gb223, 11, none⟩ = some (.int .i64 a0_11) := (blk_cell BK223.out 11).trans rfl; have hcz10_12 : w9.cell? ⟨gb223, 12, none⟩ = some (.int .i64 a0_12) := (blk_cell BK223.out 12).trans rfl; have hcz10_13 : w9.cell? ⟨gb223, 13, none⟩ = some (.int .i64 a0_13) := (blk_cell BK223.out 13).trans rfl; have hcz10_14 : w9.cell? ⟨gb223, 14, none⟩ = some (.int .i64 a0_14) := (blk_cell BK223.out 14).trans rfl; have hcz10_15 : w9.cell? ⟨gb223, 15, none⟩ = some (.bool a0_15) := (blk_cell BK223.out 15).trans rfl; have hcz10_16 : w9.cell? ⟨gb223, 16, none⟩ = some (.bool a0_16) := (blk_cell BK223.out 16).trans rfl; have hcz10_17 : w9.cell? ⟨gb223, 17, none⟩ = some (.slice A0_17 l0_17.length c0_17) := (blk_cell BK223.out 17).trans rfl; have hfz10_0 := blk_frozen BK223.out 0; have hfz10_1 := blk_frozen BK223.out 1; have hfz10_2 := blk_frozen BK223.out 2; have hfz10_3 := blk_frozen BK223.out 3; have hfz10_4 := blk_frozen BK223.out 4; have hfz10_5 := blk_frozen BK223.out 5; have hfz10_6 := blk_frozen BK223.out 6; have hfz10_7 := blk_frozen BK223.out 7; have hfz10_8 := blk_frozen BK223.out 8; have hfz10_9 := blk_frozen BK223.out 9; have hfz10_10 := blk_frozen BK223.out 10; have hfz10_11 := blk_frozen BK223.out 11; have hfz10_12 := blk_frozen BK223.out 12; have hfz10_13 := blk_frozen BK223.out 13; have hfz10_14 := blk_frozen BK223.out 14; have hfz10_15 := blk_frozen BK223.out 15; have hfz10_16 := blk_frozen BK223.out 16; have hfz10_17 := blk_frozen BK223.out 17))
                go_ret
                exact ⟨by first | rfl | (simp [errW_none, errW_some] <;> rfl) | (simp [*, errW_none, errW_some] <;> rfl), by repeat (first | (with_reducible first | exact HB.out | apply below_alloc | apply pw_below_drewN | apply below_drew1 | refine below_set ?_ GE223.out) | exact HB.out)⟩
              · rw [if_neg c8] at H
                have c8b0 : decide (0 ≤ a0_12) = false := decide_eq_false c8
                clear c8
                obtain rfl := Option.some.inj H
                go_enter Try.func25, Try.ntmps25
                go_wp2_with (first | ((with_reducible refine gate_dst (N := 1) rfl ?_); refine box_event ?hg (N := 1) ?hd (cs := #[.string a0_0, .string a0_1, .string a0_2, .string a0_3, .string a0_4, .string a0_5, .string a0_6, .string a0_7, .int .i64 a0_8, .int .i64 a0_9, .int .i64 a0_10, .int .i64 a0_11, .int .i64 a0_12, .int .i64 a0_13, .int .i64 a0_14, .bool a0_15, .bool a0_16, .slice A0_17 l0_17.length c0_17]) (t := 32) ?hr ?_; (case hd => rfl); (case hg => rfl); (case hr => first | (go_simp; done) | (go_simp; rfl)); intro gb223 hg w11 hbox hb; have n0_ := Aside0.mk (below_step (by repeat (first | (with_reducible first | exact HB.out | apply below_alloc | apply pw_below_drewN | apply below_drew1) | exact HB.out)) hb); have n1_ := Aside0.mk (hbox); have n2_ := Aside0.mk ((by rw [hg]; exact (below_size (by repeat (first | (with_reducible first | exact HB.out | apply below_alloc | apply pw_below_drewN | apply below_drew1) | exact HB.out))) : w.heap.size ≤ gb223)); have n3_ := Aside0.mk ((by rw [hg]; exact (below_size (by repeat (first | (with_reducible first | exact HB.out | apply below_alloc | apply pw_below_drewN | apply below_drew1) | exact HB.out))) : w.heap.size ≤ gb223)); clear HB; have HB := n0_; have BK223 := n1_; have GW223 := n2_; have GE223 := n3_; clear n0_ n1_ n2_ n3_; clear hb hbox hg; have hcz12_0 : w11.cell? ⟨gb223, 0, none⟩ = some (.string a0_0) := (blk_cell BK223.out 0).trans rfl; have hcz12_1 : w11.cell? ⟨gb223, 1, none⟩ = some (.string a0_1) := (blk_cell BK223.out 1).trans rfl; have hcz12_2 : w11.cell? ⟨gb223, 2, none⟩ = some (.string a0_2) := (blk_cell BK223.out 2).trans rfl; have hcz12_3 : w11.cell? ⟨gb223, 3, none⟩ = some (.string a0_3) := (blk_cell BK223.out 3).trans rfl; have hcz12_4 : w11.cell? ⟨gb223, 4, none⟩ = some (.string a0_4) := (blk_cell BK223.out 4).trans rfl; have hcz12_5 : w11.cell? ⟨gb223, 5, none⟩ = some (.string a0_5) := (blk_cell BK223.out 5).trans rfl; have hcz12_6 : w11.cell? ⟨gb223, 6, none⟩ = some (.string a0_6) := (blk_cell BK223.out 6).trans rfl; have hcz12_7 : w11.cell? ⟨gb223, 7, none⟩ = some (.string a0_7) := (blk_cell BK223.out 7).trans rfl; have hcz12_8 : w11.cell? ⟨gb223, 8, none⟩ = some (.int .i64 a0_8) := (blk_cell BK223.out 8).trans rfl; have hcz12_9 : w11.cell? ⟨gb223, 9, none⟩ = some (.int .i64 a0_9) := (blk_cell BK223.out 9).trans rfl; have hcz12_10 : w11.cell? ⟨gb223, 10, none⟩ = some (.int .i64 a0_10) := (blk_cell BK223.out 10).trans rfl; have hcz12_11 : w11.cell? ⟨gb223, 11, none⟩ = some (.int .i64 a0_11) := (blk_cell BK223.out 11).trans rfl; have hcz12_12 : w11.cell? ⟨gb223, 12, none⟩ = some (.int .i64 a0_12) := (blk_cell BK223.out 12).trans rfl; have hcz12_13 : w11.cell? ⟨gb223, 13, none⟩ = some (.int .i64 a0_13) := (blk_cell BK223.out 13).trans rfl; have hcz12_14 : w11.cell? ⟨gb223, 14, none⟩ = some (.int .i64 a0_14) := (blk_cell BK223.out 14).trans rfl; have hcz12_15 : w11.cell? ⟨gb223, 15, none⟩ = some (.bool a0_15) := (blk_cell BK223.out 15).trans rfl; have hcz12_16 : w11.cell? ⟨gb223, 16, none⟩ = some (.bool a0_16) := (blk_cell BK223.out 16).trans rfl; have hcz12_17 : w11.cell? ⟨gb223, 17, none⟩ = some (.slice A0_17 l0_17.length c0_17) := (blk_cell BK223.out 17).trans rfl; have hfz12_0 := blk_frozen BK223.out 0; have hfz12_1 := blk_frozen BK223.out 1; have hfz12_2 := blk_frozen BK223.out 2; have hfz12_3 := blk_frozen BK223.out 3; have hfz12_4 := blk_frozen BK223.out 4; have hfz12_5 := blk_frozen BK223.out 5; have hfz12_6 := blk_frozen BK223.out 6; have hfz12_7 := blk_frozen BK223.out 7; have hfz12_8 := blk_frozen BK223.out 8; have hfz12_9 := blk_frozen BK223.out 9; have hfz12_10 := blk_frozen BK223.out 10; have hfz12_11 := blk_frozen BK223.out 11; have hfz12_12 := blk_frozen BK223.out 12; have hfz12_13 := blk_frozen BK223.out 13; have hfz12_14 := blk_frozen BK223.out 14; have hfz12_15 := blk_frozen BK223.out 15; have hfz12_16 := blk_frozen BK223.out 16; have hfz12_17 := blk_frozen BK223.out 17))
                go_ret
                exact ⟨by first | rfl | (simp [errW_none, errW_some] <;> rfl) | (simp [*, errW_none, errW_some] <;> rfl), by repeat (first | (with_reducible first | exact HB.out | apply below_alloc | apply pw_below_drewN | apply below_drew1 | refine below_set ?_ GE223.out) | exact HB.out)⟩
            · rw [if_neg c7] at H
              have c7b0 : decide (a0_10 ≤ 1000) = false := decide_eq_false c7
              clear c7
              obtain rfl := Option.some.inj H
              go_enter Try.func25, Try.ntmps25
              go_wp2_with (first | ((with_reducible refine gate_dst (N := 1) rfl ?_); refine box_event ?hg (N := 1) ?hd (cs := #[.string a0_0, .string a0_1, .string a0_2, .string a0_3, .string a0_4, .string a0_5, .string a0_6, .string a0_7, .int .i64 a0_8, .int .i64 a0_9, .int .i64 a0_10, .int .i64 a0_11, .int .i64 a0_12, .int .i64 a0_13, .int .i64 a0_14, .bool a0_15, .bool a0_16, .slice A0_17 l0_17.length c0_17]) (t := 32) ?hr ?_; (case hd => rfl); (case hg => rfl); (case hr => first | (go_simp; done) | (go_simp; rfl)); intro gb223 hg w13 hbox hb; have n0_ := Aside0.mk (below_step (by repeat (first | (with_reducible first | exact HB.out | apply below_alloc | apply pw_below_drewN | apply below_drew1) | exact HB.out)) hb); have n1_ := Aside0.mk (hbox); have n2_ := Aside0.mk ((by rw [hg]; exact (below_size (by repeat (first | (with_reducible first | exact HB.out | apply below_alloc | apply pw_below_drewN | apply below_drew1) | exact HB.out))) : w.heap.size ≤ gb223)); have n3_ := Aside0.mk ((by rw [hg]; exact (below_size (by repeat (first | (with_reducible first | exact HB.out | apply below_alloc | apply pw_below_drewN | apply below_drew1) | exact HB.out))) : w.heap.size ≤ gb223)); clear HB; have HB := n0_; have BK223 := n1_; have GW223 := n2_; have GE223 := n3_; clear n0_ n1_ n2_ n3_; clear hb hbox hg; have hcz14_0 : w13.cell? ⟨gb223, 0, none⟩ = some (.string a0_0) := (blk_cell BK223.out 0).trans rfl; have hcz14_1 : w13.cell? ⟨gb223, 1, none⟩ = some (.string a0_1) := (blk_cell BK223.out 1).trans rfl; have hcz14_2 : w13.cell? ⟨gb223, 2, none⟩ = some (.string a0_2) := (blk_cell BK223.out 2).trans rfl; have hcz14_3 : w13.cell? ⟨gb223, 3, none⟩ = some (.string a0_3) := (blk_cell BK223.out 3).trans rfl; have hcz14_4 : w13.cell? ⟨gb223, 4, none⟩ = some (.string a0_4) := (blk_cell BK223.out 4).trans rfl; have hcz14_5 : w13.cell? ⟨gb223, 5, none⟩ = some (.string a0_5) := (blk_cell BK223.out 5).trans rfl; have hcz14_6 : w13.cell? ⟨gb223, 6, none⟩ = some (.string a0_6) := (blk_cell BK223.out 6).trans rfl; have hcz14_7 : w13.cell? ⟨gb223, 7, none⟩ = some (.string a0_7) := (blk_cell BK223.out 7).trans rfl; have hcz14_8 : w13.cell? ⟨gb223, 8, none⟩ = some (.int .i64 a0_8) := (blk_cell BK223.out 8).trans rfl; have hcz14_9 : w13.cell? ⟨gb223, 9, none⟩ = some (.int .i64 a0_9) := (blk_cell BK223.out 9).trans rfl; have hcz14_10 : w13.cell? ⟨gb223, 10, none⟩ = some (.int .i64 a0_10) := (blk_cell BK223.out 10).trans rfl; have hcz14_11 : w13.cell? ⟨gb223, 11, none⟩ = some (.int .i64 a0_11) := (blk_cell BK223.out 11).trans rfl; have hcz14_12 : w13.cell? ⟨gb223, 12, none⟩ = some (.int .i64 a0_12) := (blk_cell BK223.out 12).trans rfl; have hcz14_13 : w13.cell? ⟨gb223, 13, none⟩ = some (.int .i64 a0_13) := (blk_cell BK223.out 13).trans rfl; have hcz14_14 : w13.cell? ⟨gb223, 14, none⟩ = some (.int .i64 a0_14) := (blk_cell BK223.out 14).trans rfl; have hcz14_15 : w13.cell? ⟨gb223, 15, none⟩ = some (.bool a0_15) := (blk_cell BK223.out 15).trans rfl; have hcz14_16 : w13.cell? ⟨gb223, 16, none⟩ = some (.bool a0_16) := (blk_cell BK223.out 16).trans rfl; have hcz14_17 : w13.cell? ⟨gb223, 17, none⟩ = some (.slice A0_17 l0_17.length c0_17) := (blk_cell BK223.out 17).trans rfl; have hfz14_0 := blk_frozen BK223.out 0; have hfz14_1 := blk_frozen BK223.out 1; have hfz14_2 := blk_frozen BK223.out 2; have hfz14_3 := blk_frozen BK223.out 3; have hfz14_4 := blk_frozen BK223.out 4; have hfz14_5 := blk_frozen BK223.out 5; have hfz14_6 := blk_frozen BK223.out 6; have hfz14_7 := blk_frozen BK223.out 7; have hfz14_8 := blk_frozen BK223.out 8; have hfz14_9 := blk_frozen BK223.out 9; have hfz14_10 := blk_frozen BK223.out 10; have hfz14_11 := blk_frozen BK223.out 11; have hfz14_12 := blk_frozen BK223.out 12; have hfz14_13 := blk_frozen BK223.out 13; have hfz14_14 := blk_frozen BK223.out 14; have hfz14_15 := blk_frozen BK223.out 15; have hfz14_16 := blk_frozen BK223.out 16; have hfz14_17 := blk_frozen BK223.out 17))
              go_ret
              exact ⟨by first | rfl | (simp [errW_none, errW_some] <;> rfl) | (simp [*, errW_none, errW_some] <;> rfl), by repeat (first | (with_reducible first | exact HB.out | apply below_alloc | apply pw_below_drewN | apply below_drew1 | refine below_set ?_ GE223.out) | exact HB.out)⟩
          · rw [if_neg c6] at H
            have c6b0 : decide (0 ≤ a0_10) = false := decide_eq_false c6
            clear c6
            obtain rfl := Option.some.inj H
            go_enter Try.func25, Try.ntmps25
            go_wp2_with (first | ((with_reducible refine gate_dst (N := 1) rfl ?_); refine box_event ?hg (N := 1) ?hd (cs := #[.string a0_0, .string a0_1, .string a0_2, .string a0_3, .string a0_4, .string a0_5, .string a0_6, .string a0_7, .int .i64 a0_8, .int .i64 a0_9, .int .i64 a0_10, .int .i64 a0_11, .int .i64 a0_12, .int .i64 a0_13, .int .i64 a0_14, .bool a0_15, .bool a0_16, .slice A0_17 l0_17.length c0_17]) (t := 32) ?hr ?_; (case hd => rfl); (case hg => rfl); (case hr => first | (go_simp; done) | (go_simp; rfl)); intro gb223 hg w15 hbox hb; have n0_ := Aside0.mk (below_step (by repeat (first | (with_reducible first | exact HB.out | apply below_alloc | apply pw_below_drewN | apply below_drew1) | exact HB.out)) hb); have n1_ := Aside0.mk (hbox); have n2_ := Aside0.mk ((by rw [hg]; exact (below_size (by repeat (first | (with_reducible first | exact HB.out | apply below_alloc | apply pw_below_drewN | apply below_drew1) | exact HB.out))) : w.heap.size ≤ gb223)); have n3_ := Aside0.mk ((by rw [hg]; exact (below_size (by repeat (first | (with_reducible first | exact HB.out | apply below_alloc | apply pw_below_drewN | apply below_drew1) | exact HB.out))) : w.heap.size ≤ gb223)); clear HB; have HB := n0_; have BK223 := n1_; have GW223 := n2_; have GE223 := n3_; clear n0_ n1_ n2_ n3_; clear hb hbox hg; have hcz16_0 : w15.cell? ⟨gb223, 0, none⟩ = some (.string a0_0) := (blk_cell BK223.out 0).trans rfl; have hcz16_1 : w15.cell? ⟨gb223, 1, none⟩ = some (.string a0_1) := (blk_cell BK223.out 1).trans rfl; have hcz16_2 : w15.cell? ⟨gb223, 2, none⟩ = some (.string a0_2) := (blk_cell BK223.out 2).trans rfl; have hcz16_3 : w15.cell? ⟨gb223, 3, none⟩ = some (.string a0_3) := (blk_cell BK223.out 3).trans rfl; have hcz16_4 : w15.cell? ⟨gb223, 4, none⟩ = some (.string a0_4) := (blk_cell BK223.out 4).trans rfl; have hcz16_5 : w15.cell? ⟨gb223, 5, none⟩ = some (.string a0_5) := (blk_cell BK223.out 5).trans rfl; have hcz16_6 : w15.cell? ⟨gb223, 6, none⟩ = some (.string a0_6) := (blk_cell BK223.out 6).trans rfl; have hcz16_7 : w15.cell? ⟨gb223, 7, none⟩ = some (.string a0_7) := (blk_cell BK223.out 7).trans rfl; have hcz16_8 : w15.cell? ⟨gb223, 8, none⟩ = some (.int .i64 a0_8) := (blk_cell BK223.out 8).trans rfl; have hcz16_9 : w15.cell? ⟨gb223, 9, none⟩ = some (.int .i64 a0_9) := (blk_cell BK223.out 9).trans rfl; have hcz16_10 : w15.cell? ⟨gb223, 10, none⟩ = some (.int .i64 a0_10) := (blk_cell BK223.out 10).trans rfl; have hcz16_11 : w15.cell? ⟨gb223, 11, none⟩ = some (.int .i64 a0_11) := (blk_cell BK223.out 11).trans rfl; have hcz16_12 : w15.cell? ⟨gb223, 12, none⟩ = some (.int .i64 a0_12) := (blk_cell BK223.out 12).trans rfl; have hcz16_13 : w15.cell? ⟨gb223, 13, none⟩ = some (.int .i64 a0_13) := (blk_cell BK223.out 13).trans rfl; have hcz16_14 : w15.cell? ⟨gb223, 14, none⟩ = some (.int .i64 a0_14) := (blk_cell BK223.out 14).trans rfl; have hcz16_15 : w15.cell? ⟨gb223, 15, none⟩ = some (.bool a0_15) := (blk_cell BK223.out 15).trans rfl; have hcz16_16 : w15.cell? ⟨gb223, 16, none⟩ = some (.bool a0_16) := (blk_cell BK223.out 16).trans rfl; have hcz16_17 : w15.cell? ⟨gb223, 17, none⟩ = some (.slice A0_17 l0_17.length c0_17) := (blk_cell BK223.out 17).trans rfl; have hfz16_0 := blk_frozen BK223.out 0; have hfz16_1 := blk_frozen BK223.out 1; have hfz16_2 := blk_frozen BK223.out 2; have hfz16_3 := blk_frozen BK223.out 3; have hfz16_4 := blk_frozen BK223.out 4; have hfz16_5 := blk_frozen BK223.out 5; have hfz16_6 := blk_frozen BK223.out 6; have hfz16_7 := blk_frozen BK223.out 7; have hfz16_8 := blk_frozen BK223.out 8; have hfz16_9 := blk_frozen BK223.out 9; have hfz16_10 := blk_frozen BK223.out 10; have hfz16_11 := blk_frozen BK223.out 11; have hfz16_12 := blk_frozen BK223.out 12; have hfz16_13 := blk_frozen BK223.out 13; have hfz16_14 := blk_frozen BK223.out 14; have hfz16_15 := blk_frozen BK223.out 15; have hfz16_16 := blk_frozen BK223.out 16; have hfz16_17 := blk_frozen BK223.out 17))
            go_ret
            exact ⟨by first | rfl | (simp [errW_none, errW_some] <;> rfl) | (simp [*, errW_none, errW_some] <;> rfl), by repeat (first | (with_reducible first | exact HB.out | apply below_alloc | apply pw_below_drewN | apply below_drew1 | refine below_set ?_ GE223.out) | exact HB.out)⟩
        · rw [if_neg c5] at H
          have c5b0 : decide (a0_9 ≤ 1000) = false := decide_eq_false c5
          clear c5
          obtain rfl := Option.some.inj H
          go_enter Try.func25, Try.ntmps25
          go_wp2_with (first | ((with_reducible refine gate_dst (N := 1) rfl ?_); refine box_event ?hg (N := 1) ?hd (cs := #[.string a0_0, .string a0_1, .string a0_2, .string a0_3, .string a0_4, .string a0_5, .string a0_6, .string a0_7, .int .i64 a0_8, .int .i64 a0_9, .int .i64 a0_10, .int .i64 a0_11, .int .i64 a0_12, .int .i64 a0_13, .int .i64 a0_14, .bool a0_15, .bool a0_16, .slice A0_17 l0_17.length c0_17]) (t := 32) ?hr ?_; (case hd => rfl); (case hg => rfl); (case hr => first | (go_simp; done) | (go_simp; rfl)); intro gb223 hg w17 hbox hb; have n0_ := Aside0.mk (below_step (by repeat (first | (with_reducible first | exact HB.out | apply below_alloc | apply pw_below_drewN | apply below_drew1) | exact HB.out)) hb); have n1_ := Aside0.mk (hbox); have n2_ := Aside0.mk ((by rw [hg]; exact (below_size (by repeat (first | (with_reducible first | exact HB.out | apply below_alloc | apply pw_below_drewN | apply below_drew1) | exact HB.out))) : w.heap.size ≤ gb223)); have n3_ := Aside0.mk ((by rw [hg]; exact (below_size (by repeat (first | (with_reducible first | exact HB.out | apply below_alloc | apply pw_below_drewN | apply below_drew1) | exact HB.out))) : w.heap.size ≤ gb223)); clear HB; have HB := n0_; have BK223 := n1_; have GW223 := n2_; have GE223 := n3_; clear n0_ n1_ n2_ n3_; clear hb hbox hg; have hcz18_0 : w17.cell? ⟨gb223, 0, none⟩ = some (.string a0_0) := (blk_cell BK223.out 0).trans rfl; have hcz18_1 : w17.cell? ⟨gb223, 1, none⟩ = some (.string a0_1) := (blk_cell BK223.out 1).trans rfl; have hcz18_2 : w17.cell? ⟨gb223, 2, none⟩ = some (.string a0_2) := (blk_cell BK223.out 2).trans rfl; have hcz18_3 : w17.cell? ⟨gb223, 3, none⟩ = some (.string a0_3) := (blk_cell BK223.out 3).trans rfl; have hcz18_4 : w17.cell? ⟨gb223, 4, none⟩ = some (.string a0_4) := (blk_cell BK223.out 4).trans rfl; have hcz18_5 : w17.cell? ⟨gb223, 5, none⟩ = some (.string a0_5) := (blk_cell BK223.out 5).trans rfl; have hcz18_6 : w17.cell? ⟨gb223, 6, none⟩ = some (.string a0_6) := (blk_cell BK223.out 6).trans rfl; have hcz18_7 : w17.cell? ⟨gb223, 7, none⟩ = some (.string a0_7) := (blk_cell BK223.out 7).trans rfl; have hcz18_8 : w17.cell? ⟨gb223, 8, none⟩ = some (.int .i64 a0_8) := (blk_cell BK223.out 8).trans rfl; have hcz18_9 : w17.cell? ⟨gb223, 9, none⟩ = some (.int .i64 a0_9) := (blk_cell BK223.out 9).trans rfl; have hcz18_10 : w17.cell? ⟨gb223, 10, none⟩ = some (.int .i64 a0_10) := (blk_cell BK223.out 10).trans rfl; have hcz18_11 : w17.cell? ⟨gb223, 11, none⟩ = some (.int .i64 a0_11) := (blk_cell BK223.out 11).trans rfl; have hcz18_12 : w17.cell? ⟨gb223, 12, none⟩ = some (.int .i64 a0_12) := (blk_cell BK223.out 12).trans rfl; have hcz18_13 : w17.cell? ⟨gb223, 13, none⟩ = some (.int .i64 a0_13) := (blk_cell BK223.out 13).trans rfl; have hcz18_14 : w17.cell? ⟨gb223, 14, none⟩ = some (.int .i64 a0_14) := (blk_cell BK223.out 14).trans rfl; have hcz18_15 : w17.cell? ⟨gb223, 15, none⟩ = some (.bool a0_15) := (blk_cell BK223.out 15).trans rfl; have hcz18_16 : w17.cell? ⟨gb223, 16, none⟩ = some (.bool a0_16) := (blk_cell BK223.out 16).trans rfl; have hcz18_17 : w17.cell? ⟨gb223, 17, none⟩ = some (.slice A0_17 l0_17.length c0_17) := (blk_cell BK223.out 17).trans rfl; have hfz18_0 := blk_frozen BK223.out 0; have hfz18_1 := blk_frozen BK223.out 1; have hfz18_2 := blk_frozen BK223.out 2; have hfz18_3 := blk_frozen BK223.out 3; have hfz18_4 := blk_frozen BK223.out 4; have hfz18_5 := blk_frozen BK223.out 5; have hfz18_6 := blk_frozen BK223.out 6; have hfz18_7 := blk_frozen BK223.out 7; have hfz18_8 := blk_frozen BK223.out 8; have hfz18_9 := blk_frozen BK223.out 9; have hfz18_10 := blk_frozen BK223.out 10; have hfz18_11 := blk_frozen BK223.out 11; have hfz18_12 := blk_frozen BK223.out 12; have hfz18_13 := blk_frozen BK223.out 13; have hfz18_14 := blk_frozen BK223.out 14; have hfz18_15 := blk_frozen BK223.out 15; have hfz18_16 := blk_frozen BK223.out 16; have hfz18_17 := blk_frozen BK223.out 17))
          go_ret
          exact ⟨by first | rfl | (simp [errW_none, errW_some] <;> rfl) | (simp [*, errW_none, errW_some] <;> rfl), by repeat (first | (with_reducible first | exact HB.out | apply below_alloc | apply pw_below_drewN | apply below_drew1 | refine below_set ?_ GE223.out) | exact HB.out)⟩
      · rw [if_neg c4] at H
        have c4b0 : decide (0 ≤ a0_9) = false := decide_eq_false c4
        clear c4
        obtain rfl := Option.some.inj H
        go_enter Try.func25, Try.ntmps25
        go_wp2_with (first | ((with_reducible refine gate_dst (N := 1) rfl ?_); refine box_event ?hg (N := 1) ?hd (cs := #[.string a0_0, .string a0_1, .string a0_2, .string a0_3, .string a0_4, .string a0_5, .string a0_6, .string a0_7, .int .i64 a0_8, .int .i64 a0_9, .int .i64 a0_10, .int .i64 a0_11, .int .i64 a0_12, .int .i64 a0_13, .int .i64 a0_14, .bool a0_15, .bool a0_16, .slice A0_17 l0_17.length c0_17]) (t := 32) ?hr ?_; (case hd => rfl); (case hg => rfl); (case hr => first | (go_simp; done) | (go_simp; rfl)); intro gb223 hg w19 hbox hb; have n0_ := Aside0.mk (below_step (by repeat (first | (with_reducible first | exact HB.out | apply below_alloc | apply pw_below_drewN | apply below_drew1) | exact HB.out)) hb); have n1_ := Aside0.mk (hbox); have n2_ := Aside0.mk ((by rw [hg]; exact (below_size (by repeat (first | (with_reducible first | exact HB.out | apply below_alloc | apply pw_below_drewN | apply below_drew1) | exact HB.out))) : w.heap.size ≤ gb223)); have n3_ := Aside0.mk ((by rw [hg]; exact (below_size (by repeat (first | (with_reducible first | exact HB.out | apply below_alloc | apply pw_below_drewN | apply below_drew1) | exact HB.out))) : w.heap.size ≤ gb223)); clear HB; have HB := n0_; have BK223 := n1_; have GW223 := n2_; have GE223 := n3_; clear n0_ n1_ n2_ n3_; clear hb hbox hg; have hcz20_0 : w19.cell? ⟨gb223, 0, none⟩ = some (.string a0_0) := (blk_cell BK223.out 0).trans rfl; have hcz20_1 : w19.cell? ⟨gb223, 1, none⟩ = some (.string a0_1) := (blk_cell BK223.out 1).trans rfl; have hcz20_2 : w19.cell? ⟨gb223, 2, none⟩ = some (.string a0_2) := (blk_cell BK223.out 2).trans rfl; have hcz20_3 : w19.cell? ⟨gb223, 3, none⟩ = some (.string a0_3) := (blk_cell BK223.out 3).trans rfl; have hcz20_4 : w19.cell? ⟨gb223, 4, none⟩ = some (.string a0_4) := (blk_cell BK223.out 4).trans rfl; have hcz20_5 : w19.cell? ⟨gb223, 5, none⟩ = some (.string a0_5) := (blk_cell BK223.out 5).trans rfl; have hcz20_6 : w19.cell? ⟨gb223, 6, none⟩ = some (.string a0_6) := (blk_cell BK223.out 6).trans rfl; have hcz20_7 : w19.cell? ⟨gb223, 7, none⟩ = some (.string a0_7) := (blk_cell BK223.out 7).trans rfl; have hcz20_8 : w19.cell? ⟨gb223, 8, none⟩ = some (.int .i64 a0_8) := (blk_cell BK223.out 8).trans rfl; have hcz20_9 : w19.cell? ⟨gb223, 9, none⟩ = some (.int .i64 a0_9) := (blk_cell BK223.out 9).trans rfl; have hcz20_10 : w19.cell? ⟨gb223, 10, none⟩ = some (.int .i64 a0_10) := (blk_cell BK223.out 10).trans rfl; have hcz20_11 : w19.cell? ⟨gb223, 11, none⟩ = some (.int .i64 a0_11) := (blk_cell BK223.out 11).trans rfl; have hcz20_12 : w19.cell? ⟨gb223, 12, none⟩ = some (.int .i64 a0_12) := (blk_cell BK223.out 12).trans rfl; have hcz20_13 : w19.cell? ⟨gb223, 13, none⟩ = some (.int .i64 a0_13) := (blk_cell BK223.out 13).trans rfl; have hcz20_14 : w19.cell? ⟨gb223, 14, none⟩ = some (.int .i64 a0_14) := (blk_cell BK223.out 14).trans rfl; have hcz20_15 : w19.cell? ⟨gb223, 15, none⟩ = some (.bool a0_15) := (blk_cell BK223.out 15).trans rfl; have hcz20_16 : w19.cell? ⟨gb223, 16, none⟩ = some (.bool a0_16) := (blk_cell BK223.out 16).trans rfl; have hcz20_17 : w19.cell? ⟨gb223, 17, none⟩ = some (.slice A0_17 l0_17.length c0_17) := (blk_cell BK223.out 17).trans rfl; have hfz20_0 := blk_frozen BK223.out 0; have hfz20_1 := blk_frozen BK223.out 1; have hfz20_2 := blk_frozen BK223.out 2; have hfz20_3 := blk_frozen BK223.out 3; have hfz20_4 := blk_frozen BK223.out 4; have hfz20_5 := blk_frozen BK223.out 5; have hfz20_6 := blk_frozen BK223.out 6; have hfz20_7 := blk_frozen BK223.out 7; have hfz20_8 := blk_frozen BK223.out 8; have hfz20_9 := blk_frozen BK223.out 9; have hfz20_10 := blk_frozen BK223.out 10; have hfz20_11 := blk_frozen BK223.out 11; have hfz20_12 := blk_frozen BK223.out 12; have hfz20_13 := blk_frozen BK223.out 13; have hfz20_14 := blk_frozen BK223.out 14; have hfz20_15 := blk_frozen BK223.out 15; have hfz20_16 := blk_frozen BK223.out 16; have hfz20_17 := blk_frozen BK223.out 17))
        go_ret
        exact ⟨by first | rfl | (simp [errW_none, errW_some] <;> rfl) | (simp [*, errW_none, errW_some] <;> rfl), by repeat (first | (with_reducible first | exact HB.out | apply below_alloc | apply pw_below_drewN | apply below_drew1 | refine below_set ?_ GE223.out) | exact HB.out)⟩
    · rw [if_neg c3] at H
      have c3b0 : decide (a0_8 ≤ 1099511627776) = false := decide_eq_false c3
      clear c3
      obtain rfl := Option.some.inj H
      go_enter Try.func25, Try.ntmps25
      go_wp2_with (first | ((with_reducible refine gate_dst (N := 1) rfl ?_); refine box_event ?hg (N := 1) ?hd (cs := #[.string a0_0, .string a0_1, .string a0_2, .string a0_3, .string a0_4, .string a0_5, .string a0_6, .string a0_7, .int .i64 a0_8, .int .i64 a0_9, .int .i64 a0_10, .int .i64 a0_11, .int .i64 a0_12, .int .i64 a0_13, .int .i64 a0_14, .bool a0_15, .bool a0_16, .slice A0_17 l0_17.length c0_17]) (t := 32) ?hr ?_; (case hd => rfl); (case hg => rfl); (case hr => first | (go_simp; done) | (go_simp; rfl)); intro gb223 hg w21 hbox hb; have n0_ := Aside0.mk (below_step (by repeat (first | (with_reducible first | exact HB.out | apply below_alloc | apply pw_below_drewN | apply below_drew1) | exact HB.out)) hb); have n1_ := Aside0.mk (hbox); have n2_ := Aside0.mk ((by rw [hg]; exact (below_size (by repeat (first | (with_reducible first | exact HB.out | apply below_alloc | apply pw_below_drewN | apply below_drew1) | exact HB.out))) : w.heap.size ≤ gb223)); have n3_ := Aside0.mk ((by rw [hg]; exact (below_size (by repeat (first | (with_reducible first | exact HB.out | apply below_alloc | apply pw_below_drewN | apply below_drew1) | exact HB.out))) : w.heap.size ≤ gb223)); clear HB; have HB := n0_; have BK223 := n1_; have GW223 := n2_; have GE223 := n3_; clear n0_ n1_ n2_ n3_; clear hb hbox hg; have hcz22_0 : w21.cell? ⟨gb223, 0, none⟩ = some (.string a0_0) := (blk_cell BK223.out 0).trans rfl; have hcz22_1 : w21.cell? ⟨gb223, 1, none⟩ = some (.string a0_1) := (blk_cell BK223.out 1).trans rfl; have hcz22_2 : w21.cell? ⟨gb223, 2, none⟩ = some (.string a0_2) := (blk_cell BK223.out 2).trans rfl; have hcz22_3 : w21.cell? ⟨gb223, 3, none⟩ = some (.string a0_3) := (blk_cell BK223.out 3).trans rfl; have hcz22_4 : w21.cell? ⟨gb223, 4, none⟩ = some (.string a0_4) := (blk_cell BK223.out 4).trans rfl; have hcz22_5 : w21.cell? ⟨gb223, 5, none⟩ = some (.string a0_5) := (blk_cell BK223.out 5).trans rfl; have hcz22_6 : w21.cell? ⟨gb223, 6, none⟩ = some (.string a0_6) := (blk_cell BK223.out 6).trans rfl; have hcz22_7 : w21.cell? ⟨gb223, 7, none⟩ = some (.string a0_7) := (blk_cell BK223.out 7).trans rfl; have hcz22_8 : w21.cell? ⟨gb223, 8, none⟩ = some (.int .i64 a0_8) := (blk_cell BK223.out 8).trans rfl; have hcz22_9 : w21.cell? ⟨gb223, 9, none⟩ = some (.int .i64 a0_9) := (blk_cell BK223.out 9).trans rfl; have hcz22_10 : w21.cell? ⟨gb223, 10, none⟩ = some (.int .i64 a0_10) := (blk_cell BK223.out 10).trans rfl; have hcz22_11 : w21.cell? ⟨gb223, 11, none⟩ = some (.int .i64 a0_11) := (blk_cell BK223.out 11).trans rfl; have hcz22_12 : w21.cell? ⟨gb223, 12, none⟩ = some (.int .i64 a0_12) := (blk_cell BK223.out 12).trans rfl; have hcz22_13 : w21.cell? ⟨gb223, 13, none⟩ = some (.int .i64 a0_13) := (blk_cell BK223.out 13).trans rfl; have hcz22_14 : w21.cell? ⟨gb223, 14, none⟩ = some (.int .i64 a0_14) := (blk_cell BK223.out 14).trans rfl; have hcz22_15 : w21.cell? ⟨gb223, 15, none⟩ = some (.bool a0_15) := (blk_cell BK223.out 15).trans rfl; have hcz22_16 : w21.cell? ⟨gb223, 16, none⟩ = some (.bool a0_16) := (blk_cell BK223.out 16).trans rfl; have hcz22_17 : w21.cell? ⟨gb223, 17, none⟩ = some (.slice A0_17 l0_17.length c0_17) := (blk_cell BK223.out 17).trans rfl; have hfz22_0 := blk_frozen BK223.out 0; have hfz22_1 := blk_frozen BK223.out 1; have hfz22_2 := blk_frozen BK223.out 2; have hfz22_3 := blk_frozen BK223.out 3; have hfz22_4 := blk_frozen BK223.out 4; have hfz22_5 := blk_frozen BK223.out 5; have hfz22_6 := blk_frozen BK223.out 6; have hfz22_7 := blk_frozen BK223.out 7; have hfz22_8 := blk_frozen BK223.out 8; have hfz22_9 := blk_frozen BK223.out 9; have hfz22_10 := blk_frozen BK223.out 10; have hfz22_11 := blk_frozen BK223.out 11; have hfz22_12 := blk_frozen BK223.out 12; have hfz22_13 := blk_frozen BK223.out 13; have hfz22_14 := blk_frozen BK223.out 14; have hfz22_15 := blk_frozen BK223.out 15; have hfz22_16 := blk_frozen BK223.out 16; have hfz22_17 := blk_frozen BK223.out 17))
      go_ret
      exact ⟨by first | rfl | (simp [errW_none, errW_some] <;> rfl) | (simp [*, errW_none, errW_some] <;> rfl), by repeat (first | (with_reducible first | exact HB.out | apply below_alloc | apply pw_below_drewN | apply below_drew1 | refine below_set ?_ GE223.out) | exact HB.out)⟩
  · rw [if_neg c2] at H
    have c2b0 : decide (1 ≤ a0_8) = false := decide_eq_false c2
    clear c2
    obtain rfl := Option.some.inj H
    go_enter Try.func25, Try.ntmps25
    go_wp2_with (first | ((with_reducible refine gate_dst (N := 1) rfl ?_); refine box_event ?hg (N := 1) ?hd (cs := #[.string a0_0, .string a0_1, .string a0_2, .string a0_3, .string a0_4, .string a0_5, .string a0_6, .string a0_7, .int .i64 a0_8, .int .i64 a0_9, .int .i64 a0_10, .int .i64 a0_11, .int .i64 a0_12, .int .i64 a0_13, .int .i64 a0_14, .bool a0_15, .bool a0_16, .slice A0_17 l0_17.length c0_17]) (t := 32) ?hr ?_; (case hd => rfl); (case hg => rfl); (case hr => first | (go_simp; done) | (go_simp; rfl)); intro gb223 hg w23 hbox hb; have n0_ := Aside0.mk (below_step (by repeat (first | (with_reducible first | exact HB.out | apply below_alloc | apply pw_below_drewN | apply below_drew1) | exact HB.out)) hb); have n1_ := Aside0.mk (hbox); have n2_ := Aside0.mk ((by rw [hg]; exact (below_size (by repeat (first | (with_reducible first | exact HB.out | apply below_alloc | apply pw_below_drewN | apply below_drew1) | exact HB.out))) : w.heap.size ≤ gb223)); have n3_ := Aside0.mk ((by rw [hg]; exact (below_size (by repeat (first | (with_reducible first | exact HB.out | apply below_alloc | apply pw_below_drewN | apply below_drew1) | exact HB.out))) : w.heap.size ≤ gb223)); clear HB; have HB := n0_; have BK223 := n1_; have GW223 := n2_; have GE223 := n3_; clear n0_ n1_ n2_ n3_; clear hb hbox hg; have hcz24_0 : w23.cell? ⟨gb223, 0, none⟩ = some (.string a0_0) := (blk_cell BK223.out 0).trans rfl; have hcz24_1 : w23.cell? ⟨gb223, 1, none⟩ = some (.string a0_1) := (blk_cell BK223.out 1).trans rfl; have hcz24_2 : w23.cell? ⟨gb223, 2, none⟩ = some (.string a0_2) := (blk_cell BK223.out 2).trans rfl; have hcz24_3 : w23.cell? ⟨gb223, 3, none⟩ = some (.string a0_3) := (blk_cell BK223.out 3).trans rfl; have hcz24_4 : w23.cell? ⟨gb223, 4, none⟩ = some (.string a0_4) := (blk_cell BK223.out 4).trans rfl; have hcz24_5 : w23.cell? ⟨gb223, 5, none⟩ = some (.string a0_5) := (blk_cell BK223.out 5).trans rfl; have hcz24_6 : w23.cell? ⟨gb223, 6, none⟩ = some (.string a0_6) := (blk_cell BK223.out 6).trans rfl; have hcz24_7 : w23.cell? ⟨gb223, 7, none⟩ = some (.string a0_7) := (blk_cell BK223.out 7).trans rfl; have hcz24_8 : w23.cell? ⟨gb223, 8, none⟩ = some (.int .i64 a0_8) := (blk_cell BK223.out 8).trans rfl; have hcz24_9 : w23.cell? ⟨gb223, 9, none⟩ = some (.int .i64 a0_9) := (blk_cell BK223.out 9).trans rfl; have hcz24_10 : w23.cell? ⟨gb223, 10, none⟩ = some (.int .i64 a0_10) := (blk_cell BK223.out 10).trans rfl; have hcz24_11 : w23.cell? ⟨gb223, 11, none⟩ = some (.int .i64 a0_11) := (blk_cell BK223.out 11).trans rfl; have hcz24_12 : w23.cell? ⟨gb223, 12, none⟩ = some (.int .i64 a0_12) := (blk_cell BK223.out 12).trans rfl; have hcz24_13 : w23.cell? ⟨gb223, 13, none⟩ = some (.int .i64 a0_13) := (blk_cell BK223.out 13).trans rfl; have hcz24_14 : w23.cell? ⟨gb223, 14, none⟩ = some (.int .i64 a0_14) := (blk_cell BK223.out 14).trans rfl; have hcz24_15 : w23.cell? ⟨gb223, 15, none⟩ = some (.bool a0_15) := (blk_cell BK223.out 15).trans rfl; have hcz24_16 : w23.cell? ⟨gb223, 16, none⟩ = some (.bool a0_16) := (blk_cell BK223.out 16).trans rfl; have hcz24_17 : w23.cell? ⟨gb223, 17, none⟩ = some (.slice A0_17 l0_17.length c0_17) := (blk_cell BK223.out 17).trans rfl; have hfz24_0 := blk_frozen BK223.out 0; have hfz24_1 := blk_frozen BK223.out 1; have hfz24_2 := blk_frozen BK223.out 2; have hfz24_3 := blk_frozen BK223.out 3; have hfz24_4 := blk_frozen BK223.out 4; have hfz24_5 := blk_frozen BK223.out 5; have hfz24_6 := blk_frozen BK223.out 6; have hfz24_7 := blk_frozen BK223.out 7; have hfz24_8 := blk_frozen BK223.out 8; have hfz24_9 := blk_frozen BK223.out 9; have hfz24_10 := blk_frozen BK223.out 10; have hfz24_11 := blk_frozen BK223.out 11; have hfz24_12 := blk_frozen BK223.out 12; have hfz24_13 := blk_frozen BK223.out 13; have hfz24_14 := blk_frozen BK223.out 14; have hfz24_15 := blk_frozen BK223.out 15; have hfz24_16 := blk_frozen BK223.out 16; have hfz24_17 := blk_frozen BK223.out 17))
    go_ret
    exact ⟨by first | rfl | (simp [errW_none, errW_some] <;> rfl) | (simp [*, errW_none, errW_some] <;> rfl), by repeat (first | (with_reducible first | exact HB.out | apply below_alloc | apply pw_below_drewN | apply below_drew1 | refine below_set ?_ GE223.out) | exact HB.out)⟩
/-! ### supercargoref30_Most: function 15 -/
def supercargoref30_Most.f (a0_0 : ByteArray) (a0_1 : ByteArray) (a0_2 : ByteArray) (a0_3 : ByteArray) (a0_4 : ByteArray) (a0_5 : ByteArray) (a0_6 : ByteArray) (a0_7 : ByteArray) (a0_8 : Int) (a0_9 : Int) (a0_10 : Int) (a0_11 : Int) (a0_12 : Int) (a0_13 : Int) (a0_14 : Int) (a0_15 : Bool) (a0_16 : Bool) (l0_17 : List (S143)) : Option (Int) := some (wrap64 (Int.tdiv (wrap64 (a0_8 * (wrap64 (1000 + a0_9)))) 1000))
set_option maxHeartbeats 8000000 in
set_option maxRecDepth 100000 in
theorem supercargoref30_Most.calls (a0_0 : ByteArray) (a0_1 : ByteArray) (a0_2 : ByteArray) (a0_3 : ByteArray) (a0_4 : ByteArray) (a0_5 : ByteArray) (a0_6 : ByteArray) (a0_7 : ByteArray) (a0_8 : Int) (a0_9 : Int) (a0_10 : Int) (a0_11 : Int) (a0_12 : Int) (a0_13 : Int) (a0_14 : Int) (a0_15 : Bool) (a0_16 : Bool) (A0_17 : Option Addr) (c0_17 : Nat) (l0_17 : List (S143)) (r : Int) (w : World) (hr0_17 : Kd.C k143 w A0_17 l0_17.length l0_17) (hc0_17 : l0_17.length ≤ c0_17) (h : supercargoref30_Most.f a0_0 a0_1 a0_2 a0_3 a0_4 a0_5 a0_6 a0_7 a0_8 a0_9 a0_10 a0_11 a0_12 a0_13 a0_14 a0_15 a0_16 l0_17 = some r) :
    Calls Try.prog 15 #[.agg #[.string a0_0, .string a0_1, .string a0_2, .string a0_3, .string a0_4, .string a0_5, .string a0_6, .string a0_7, .int .i64 a0_8, .int .i64 a0_9, .int .i64 a0_10, .int .i64 a0_11, .int .i64 a0_12, .int .i64 a0_13, .int .i64 a0_14, .bool a0_15, .bool a0_16, .slice A0_17 l0_17.length c0_17]] w fun e w' => e = .returned (.int .i64 r) ∧ Below w.heap.size w w' := by
  have hu32 := Try.underlying32
  have HR0_17 := Aside0.mk hr0_17
  have HC0_17 := Aside0.mk hc0_17
  clear hr0_17 hc0_17
  have HB := Aside0.mk (Below.refl w.heap.size w)
  have H : (some (wrap64 (Int.tdiv (wrap64 (a0_8 * (wrap64 (1000 + a0_9)))) 1000))) = some r := h
  clear h
  obtain rfl := Option.some.inj H
  go_enter Try.func15, Try.ntmps15
  go_wp2_with (first | ((with_reducible refine gate_dst (N := 1) rfl ?_); refine box_event ?hg (N := 1) ?hd (cs := #[.string a0_0, .string a0_1, .string a0_2, .string a0_3, .string a0_4, .string a0_5, .string a0_6, .string a0_7, .int .i64 a0_8, .int .i64 a0_9, .int .i64 a0_10, .int .i64 a0_11, .int .i64 a0_12, .int .i64 a0_13, .int .i64 a0_14, .bool a0_15, .bool a0_16, .slice A0_17 l0_17.length c0_17]) (t := 32) ?hr ?_; (case hd => rfl); (case hg => rfl); (case hr => first | (go_simp; done) | (go_simp; rfl)); intro gb231 hg w2 hbox hb; have n0_ := Aside0.mk (below_step (by repeat (first | (with_reducible first | exact HB.out | apply below_alloc | apply pw_below_drewN | apply below_drew1) | exact HB.out)) hb); have n1_ := Aside0.mk (hbox); have n2_ := Aside0.mk ((by rw [hg]; exact (below_size (by repeat (first | (with_reducible first | exact HB.out | apply below_alloc | apply pw_below_drewN | apply below_drew1) | exact HB.out))) : w.heap.size ≤ gb231)); have n3_ := Aside0.mk ((by rw [hg]; exact (below_size (by repeat (first | (with_reducible first | exact HB.out | apply below_alloc | apply pw_below_drewN | apply below_drew1) | exact HB.out))) : w.heap.size ≤ gb231)); clear HB; have HB := n0_; have BK231 := n1_; have GW231 := n2_; have GE231 := n3_; clear n0_ n1_ n2_ n3_; clear hb hbox hg; have hcz3_0 : w2.cell? ⟨gb231, 0, none⟩ = some (.string a0_0) := (blk_cell BK231.out 0).trans rfl; have hcz3_1 : w2.cell? ⟨gb231, 1, none⟩ = some (.string a0_1) := (blk_cell BK231.out 1).trans rfl; have hcz3_2 : w2.cell? ⟨gb231, 2, none⟩ = some (.string a0_2) := (blk_cell BK231.out 2).trans rfl; have hcz3_3 : w2.cell? ⟨gb231, 3, none⟩ = some (.string a0_3) := (blk_cell BK231.out 3).trans rfl; have hcz3_4 : w2.cell? ⟨gb231, 4, none⟩ = some (.string a0_4) := (blk_cell BK231.out 4).trans rfl; have hcz3_5 : w2.cell? ⟨gb231, 5, none⟩ = some (.string a0_5) := (blk_cell BK231.out 5).trans rfl; have hcz3_6 : w2.cell? ⟨gb231, 6, none⟩ = some (.string a0_6) := (blk_cell BK231.out 6).trans rfl; have hcz3_7 : w2.cell? ⟨gb231, 7, none⟩ = some (.string a0_7) := (blk_cell BK231.out 7).trans rfl; have hcz3_8 : w2.cell? ⟨gb231, 8, none⟩ = some (.int .i64 a0_8) := (blk_cell BK231.out 8).trans rfl; have hcz3_9 : w2.cell? ⟨gb231, 9, none⟩ = some (.int .i64 a0_9) := (blk_cell BK231.out 9).trans rfl; have hcz3_10 : w2.cell? ⟨gb231, 10, none⟩ = some (.int .i64 a0_10) := (blk_cell BK231.out 10).trans rfl; have hcz3_11 : w2.cell? ⟨gb231, 11, none⟩ = some (.int .i64 a0_11) := (blk_cell BK231.out 11).trans rfl; have hcz3_12 : w2.cell? ⟨gb231, 12, none⟩ = some (.int .i64 a0_12) := (blk_cell BK231.out 12).trans rfl; have hcz3_13 : w2.cell? ⟨gb231, 13, none⟩ = some (.int .i64 a0_13) := (blk_cell BK231.out 13).trans rfl; have hcz3_14 : w2.cell? ⟨gb231, 14, none⟩ = some (.int .i64 a0_14) := (blk_cell BK231.out 14).trans rfl; have hcz3_15 : w2.cell? ⟨gb231, 15, none⟩ = some (.bool a0_15) := (blk_cell BK231.out 15).trans rfl; have hcz3_16 : w2.cell? ⟨gb231, 16, none⟩ = some (.bool a0_16) := (blk_cell BK231.out 16).trans rfl; have hcz3_17 : w2.cell? ⟨gb231, 17, none⟩ = some (.slice A0_17 l0_17.length c0_17) := (blk_cell BK231.out 17).trans rfl; have hfz3_0 := blk_frozen BK231.out 0; have hfz3_1 := blk_frozen BK231.out 1; have hfz3_2 := blk_frozen BK231.out 2; have hfz3_3 := blk_frozen BK231.out 3; have hfz3_4 := blk_frozen BK231.out 4; have hfz3_5 := blk_frozen BK231.out 5; have hfz3_6 := blk_frozen BK231.out 6; have hfz3_7 := blk_frozen BK231.out 7; have hfz3_8 := blk_frozen BK231.out 8; have hfz3_9 := blk_frozen BK231.out 9; have hfz3_10 := blk_frozen BK231.out 10; have hfz3_11 := blk_frozen BK231.out 11; have hfz3_12 := blk_frozen BK231.out 12; have hfz3_13 := blk_frozen BK231.out 13; have hfz3_14 := blk_frozen BK231.out 14; have hfz3_15 := blk_frozen BK231.out 15; have hfz3_16 := blk_frozen BK231.out 16; have hfz3_17 := blk_frozen BK231.out 17))
  go_ret
  exact ⟨by first | rfl | (simp [errW_none, errW_some] <;> rfl) | (simp [*, errW_none, errW_some] <;> rfl), by repeat (first | (with_reducible first | exact HB.out | apply below_alloc | apply pw_below_drewN | apply below_drew1 | refine below_set ?_ GE231.out) | exact HB.out)⟩

/-! ### supercargoref30_Least: function 18 -/
def supercargoref30_Least.f (a0_0 : ByteArray) (a0_1 : ByteArray) (a0_2 : ByteArray) (a0_3 : ByteArray) (a0_4 : ByteArray) (a0_5 : ByteArray) (a0_6 : ByteArray) (a0_7 : ByteArray) (a0_8 : Int) (a0_9 : Int) (a0_10 : Int) (a0_11 : Int) (a0_12 : Int) (a0_13 : Int) (a0_14 : Int) (a0_15 : Bool) (a0_16 : Bool) (l0_17 : List (S143)) : Option (Int) := some (wrap64 (Int.tdiv (wrap64 ((wrap64 (a0_8 * (wrap64 (1000 - a0_10)))) + 999)) 1000))
set_option maxHeartbeats 8000000 in
set_option maxRecDepth 100000 in
theorem supercargoref30_Least.calls (a0_0 : ByteArray) (a0_1 : ByteArray) (a0_2 : ByteArray) (a0_3 : ByteArray) (a0_4 : ByteArray) (a0_5 : ByteArray) (a0_6 : ByteArray) (a0_7 : ByteArray) (a0_8 : Int) (a0_9 : Int) (a0_10 : Int) (a0_11 : Int) (a0_12 : Int) (a0_13 : Int) (a0_14 : Int) (a0_15 : Bool) (a0_16 : Bool) (A0_17 : Option Addr) (c0_17 : Nat) (l0_17 : List (S143)) (r : Int) (w : World) (hr0_17 : Kd.C k143 w A0_17 l0_17.length l0_17) (hc0_17 : l0_17.length ≤ c0_17) (h : supercargoref30_Least.f a0_0 a0_1 a0_2 a0_3 a0_4 a0_5 a0_6 a0_7 a0_8 a0_9 a0_10 a0_11 a0_12 a0_13 a0_14 a0_15 a0_16 l0_17 = some r) :
    Calls Try.prog 18 #[.agg #[.string a0_0, .string a0_1, .string a0_2, .string a0_3, .string a0_4, .string a0_5, .string a0_6, .string a0_7, .int .i64 a0_8, .int .i64 a0_9, .int .i64 a0_10, .int .i64 a0_11, .int .i64 a0_12, .int .i64 a0_13, .int .i64 a0_14, .bool a0_15, .bool a0_16, .slice A0_17 l0_17.length c0_17]] w fun e w' => e = .returned (.int .i64 r) ∧ Below w.heap.size w w' := by
  have hu32 := Try.underlying32
  have HR0_17 := Aside0.mk hr0_17
  have HC0_17 := Aside0.mk hc0_17
  clear hr0_17 hc0_17
  have HB := Aside0.mk (Below.refl w.heap.size w)
  have H : (some (wrap64 (Int.tdiv (wrap64 ((wrap64 (a0_8 * (wrap64 (1000 - a0_10)))) + 999)) 1000))) = some r := h
  clear h
  obtain rfl := Option.some.inj H
  go_enter Try.func18, Try.ntmps18
  go_wp2_with (first | ((with_reducible refine gate_dst (N := 1) rfl ?_); refine box_event ?hg (N := 1) ?hd (cs := #[.string a0_0, .string a0_1, .string a0_2, .string a0_3, .string a0_4, .string a0_5, .string a0_6, .string a0_7, .int .i64 a0_8, .int .i64 a0_9, .int .i64 a0_10, .int .i64 a0_11, .int .i64 a0_12, .int .i64 a0_13, .int .i64 a0_14, .bool a0_15, .bool a0_16, .slice A0_17 l0_17.length c0_17]) (t := 32) ?hr ?_; (case hd => rfl); (case hg => rfl); (case hr => first | (go_simp; done) | (go_simp; rfl)); intro gb234 hg w2 hbox hb; have n0_ := Aside0.mk (below_step (by repeat (first | (with_reducible first | exact HB.out | apply below_alloc | apply pw_below_drewN | apply below_drew1) | exact HB.out)) hb); have n1_ := Aside0.mk (hbox); have n2_ := Aside0.mk ((by rw [hg]; exact (below_size (by repeat (first | (with_reducible first | exact HB.out | apply below_alloc | apply pw_below_drewN | apply below_drew1) | exact HB.out))) : w.heap.size ≤ gb234)); have n3_ := Aside0.mk ((by rw [hg]; exact (below_size (by repeat (first | (with_reducible first | exact HB.out | apply below_alloc | apply pw_below_drewN | apply below_drew1) | exact HB.out))) : w.heap.size ≤ gb234)); clear HB; have HB := n0_; have BK234 := n1_; have GW234 := n2_; have GE234 := n3_; clear n0_ n1_ n2_ n3_; clear hb hbox hg; have hcz3_0 : w2.cell? ⟨gb234, 0, none⟩ = some (.string a0_0) := (blk_cell BK234.out 0).trans rfl; have hcz3_1 : w2.cell? ⟨gb234, 1, none⟩ = some (.string a0_1) := (blk_cell BK234.out 1).trans rfl; have hcz3_2 : w2.cell? ⟨gb234, 2, none⟩ = some (.string a0_2) := (blk_cell BK234.out 2).trans rfl; have hcz3_3 : w2.cell? ⟨gb234, 3, none⟩ = some (.string a0_3) := (blk_cell BK234.out 3).trans rfl; have hcz3_4 : w2.cell? ⟨gb234, 4, none⟩ = some (.string a0_4) := (blk_cell BK234.out 4).trans rfl; have hcz3_5 : w2.cell? ⟨gb234, 5, none⟩ = some (.string a0_5) := (blk_cell BK234.out 5).trans rfl; have hcz3_6 : w2.cell? ⟨gb234, 6, none⟩ = some (.string a0_6) := (blk_cell BK234.out 6).trans rfl; have hcz3_7 : w2.cell? ⟨gb234, 7, none⟩ = some (.string a0_7) := (blk_cell BK234.out 7).trans rfl; have hcz3_8 : w2.cell? ⟨gb234, 8, none⟩ = some (.int .i64 a0_8) := (blk_cell BK234.out 8).trans rfl; have hcz3_9 : w2.cell? ⟨gb234, 9, none⟩ = some (.int .i64 a0_9) := (blk_cell BK234.out 9).trans rfl; have hcz3_10 : w2.cell? ⟨gb234, 10, none⟩ = some (.int .i64 a0_10) := (blk_cell BK234.out 10).trans rfl; have hcz3_11 : w2.cell? ⟨gb234, 11, none⟩ = some (.int .i64 a0_11) := (blk_cell BK234.out 11).trans rfl; have hcz3_12 : w2.cell? ⟨gb234, 12, none⟩ = some (.int .i64 a0_12) := (blk_cell BK234.out 12).trans rfl; have hcz3_13 : w2.cell? ⟨gb234, 13, none⟩ = some (.int .i64 a0_13) := (blk_cell BK234.out 13).trans rfl; have hcz3_14 : w2.cell? ⟨gb234, 14, none⟩ = some (.int .i64 a0_14) := (blk_cell BK234.out 14).trans rfl; have hcz3_15 : w2.cell? ⟨gb234, 15, none⟩ = some (.bool a0_15) := (blk_cell BK234.out 15).trans rfl; have hcz3_16 : w2.cell? ⟨gb234, 16, none⟩ = some (.bool a0_16) := (blk_cell BK234.out 16).trans rfl; have hcz3_17 : w2.cell? ⟨gb234, 17, none⟩ = some (.slice A0_17 l0_17.length c0_17) := (blk_cell BK234.out 17).trans rfl; have hfz3_0 := blk_frozen BK234.out 0; have hfz3_1 := blk_frozen BK234.out 1; have hfz3_2 := blk_frozen BK234.out 2; have hfz3_3 := blk_frozen BK234.out 3; have hfz3_4 := blk_frozen BK234.out 4; have hfz3_5 := blk_frozen BK234.out 5; have hfz3_6 := blk_frozen BK234.out 6; have hfz3_7 := blk_frozen BK234.out 7; have hfz3_8 := blk_frozen BK234.out 8; have hfz3_9 := blk_frozen BK234.out 9; have hfz3_10 := blk_frozen BK234.out 10; have hfz3_11 := blk_frozen BK234.out 11; have hfz3_12 := blk_frozen BK234.out 12; have hfz3_13 := blk_frozen BK234.out 13; have hfz3_14 := blk_frozen BK234.out 14; have hfz3_15 := blk_frozen BK234.out 15; have hfz3_16 := blk_frozen BK234.out 16; have hfz3_17 := blk_frozen BK234.out 17))
  go_ret
  exact ⟨by first | rfl | (simp [errW_none, errW_some] <;> rfl) | (simp [*, errW_none, errW_some] <;> rfl), by repeat (first | (with_reducible first | exact HB.out | apply below_alloc | apply pw_below_drewN | apply below_drew1 | refine below_set ?_ GE234.out) | exact HB.out)⟩


end Go.Proofs.Ythimmaffoehfaaa.Q
