/- May one be drawn behind others? Conditions: rows of at most eight hundred draws. -/
import Derived.Test.YthimmaffoehfaaaDoorFirst
set_option linter.unusedVariables false
set_option linter.unusedSimpArgs false
set_option linter.unusedSectionVars false
namespace Go.Proofs.YthimmaffoehfaaaDoor
open Go.RowKit Go.Proofs.YthimmaffoehfaaaDoorW.PrintWords Go.Proofs.YthimmaffoehfaaaDoorW.PrintLast Go.Proofs.YthimmaffoehfaaaDoorW.PrintMore
open Q

theorem info47 : (Tryd.prog.info? 47).map (fun i => (i.zero, i.size, i.bytes)) = some (some (.agg #[(.int .i64 0), (.int .i64 0)]), 2, 16) := by kernel_rfl

def mayE (t : Tm) (l : List S47) (d : S47) : Int :=
  if look1 t (l ++ [d]) = true then 1 else if look2 t d = true then 11 else if look3 t l = true then 9 else if look4 t (l ++ [d]) = true then 10 else if look5 t d = true then 3 else 0
abbrev drV (d : S47) : Value := .agg #[.int .i64 d.f0, .int .i64 d.f1]

theorem below_al {w W : World} (h : Below w.heap.size w W) (o : Obj) : Below w.heap.size w (W.alloc o) := h.alloc h.size o

theorem draw_in {w0 w : World} {k : Nat} {d : S47} (h0 : w.cell? ⟨k, 0, none⟩ = some (.int .i64 d.f0)) (h1 : w.cell? ⟨k, 1, none⟩ = some (.int .i64 d.f1)) : ReadsRow (k47.K w0) k47.sz w (some ⟨k, 0, none⟩) 1 [d] := by
  refine ⟨rfl, by decide, fun _ => ⟨_, rfl, fun j p hj => ?_⟩⟩
  obtain rfl : j = 0 := by
    have := (List.getElem?_eq_some_iff.1 hj).1
    simp at this
    omega
  obtain rfl : d = p := by simpa using hj
  refine ⟨_, rfl, k47_mk w0 d, fun i u hu => ?_⟩
  have e : (⟨k, 0, none⟩ : Addr).add (0 * k47.sz + i) = ⟨k, i, none⟩ := by rw [add_plain]; simp
  rw [e]
  match i, hu with
  | 0, hu => simp at hu; rw [← hu]; exact h0
  | 1, hu => simp at hu; rw [← hu]; exact h1
theorem read_in {W0 W1 : World} {A : Option Addr} {n : Nat} {l : List S47} (h : Kd.C k47 W0 A n l) (hb : Below W0.heap.size W0 W1) : ReadsRow (k47.K W0) k47.sz W1 A n l := ReadsRow.imp_ h hb (fun _ _ hp => hp)
theorem below_chain {W0 w9 W' w12 : World} {N : Nat} (h1 : Below W0.heap.size W0 w9) (h3 : Below N W' w12) (hN : W0.heap.size ≤ N) (h2 : Below w9.heap.size w9 W') : Below W0.heap.size W0 w12 :=
  (h1.trans (h2.mono h1.size)).trans (h3.mono hN)
theorem below_keep {W w1 : World} {N : Nat} (hb : Below N W w1) : (∀ b o, b < N → w1.cell? ⟨b, o, none⟩ = W.cell? ⟨b, o, none⟩) ∧ ∀ b o, b < N → w1.frozen? ⟨b, o, none⟩ = W.frozen? ⟨b, o, none⟩ :=
  ⟨fun b o h => hb.cell (p := ⟨b, o, none⟩) h, fun b o h => hb.frozen (p := ⟨b, o, none⟩) h⟩
theorem own_range {v9 v12 : Value} {N1 N9 N2 N12 : Nat} (h1 : ∀ k, v9.ownBlock = some k → N1 ≤ k) (h2 : ∀ k, v9.ownBlock = some k → k < N9) (hat : v12.ownBlock = v9.ownBlock ∨ ∃ b, v12.ownBlock = some b ∧ N2 ≤ b) (h3 : ∀ k, v12.ownBlock = some k → k < N12) :
    ∀ k, v12.ownBlock = some k → k < N12 ∧ ((N1 ≤ k ∧ k < N9) ∨ N2 ≤ k) := by
  intro k hk
  refine ⟨h3 k hk, ?_⟩
  rcases hat with h | ⟨b, h, hb⟩
  · rw [h] at hk
    exact .inl ⟨h1 k hk, h2 k hk⟩
  · rw [h] at hk
    injection hk with hk
    exact .inr (by omega)
theorem grown_keep {W w1 : World} {v : Value} {N : Nat} (hg : W.grownBy w1 v.ownBlock) (hN : ∀ k, v.ownBlock = some k → k < N) :
    (∀ b o, N ≤ b → b < W.heap.size → w1.cell? ⟨b, o, none⟩ = W.cell? ⟨b, o, none⟩) ∧ ∀ b o, N ≤ b → b < W.heap.size → w1.frozen? ⟨b, o, none⟩ = W.frozen? ⟨b, o, none⟩ := by
  refine ⟨fun b o h1 h2 => hg.cell_far ⟨b, o, none⟩ h2 ?_, fun b o h1 h2 => hg.frozen_far ⟨b, o, none⟩ h2 ?_⟩ <;>
  · intro e
    have := hN b e.symm
    omega

section
variable {w W0 W : World} {t : Tm} {l : List S47} {d : S47} {A A12 : Option Addr} {c c12 k7 n : Nat}
def looksOf (w : World) (k7 : Nat) (t : Tm) (l : List S47) (d : S47) : List Lk :=
  [⟨1, 44, #[.pointer (some ⟨w.heap.size, 0, none⟩), .pointer (some ⟨k7, 0, none⟩)], look1 t (l ++ [d])⟩,
   ⟨11, 46, #[.pointer (some ⟨w.heap.size + 1 + 1, 0, none⟩), .pointer (some ⟨w.heap.size, 0, none⟩)], look2 t d⟩,
   ⟨9, 47, #[.pointer (some ⟨w.heap.size, 0, none⟩), .pointer (some ⟨w.heap.size + 1, 0, none⟩)], look3 t l⟩,
   ⟨10, 48, #[.pointer (some ⟨k7, 0, none⟩), .pointer (some ⟨w.heap.size, 0, none⟩)], look4 t (l ++ [d])⟩,
   ⟨3, 50, #[.pointer (some ⟨w.heap.size, 0, none⟩), .pointer (some ⟨w.heap.size + 1 + 1, 0, none⟩)], look5 t d⟩]
theorem looks_first (w : World) (k7 : Nat) (t : Tm) (l : List S47) (d : S47) : firstE (looksOf w k7 t l d) = mayE t l d := by
  unfold looksOf mayE
  simp only [firstE_cons]
  rfl
theorem looks_enter (w : World) (k7 : Nat) (t : Tm) (l : List S47) (d : S47) : ∀ x ∈ looksOf w k7 t l d, ∀ args W, (callFunc x.fn args).run Tryd.prog W = .ok (.enter x.fn args) W := by
  intro x hx
  simp only [looksOf, List.mem_cons, List.not_mem_nil, or_false] at hx
  rcases hx with rfl | rfl | rfl | rfl | rfl <;> (intro args W; kernel_rfl)
theorem looks_end (h1 : W0.heap[w.heap.size]? = some (crO t)) (h2 : W0.heap[w.heap.size + 1]? = some (slO A l.length c)) (h3 : W0.heap[w.heap.size + 1 + 1]? = some (drO d)) (h4 : Below w.heap.size w W0) (hl : l.length ≤ 800)
    (hB : Below W0.heap.size W0 W) (c7 : W.cell? ⟨k7, 0, none⟩ = some (.slice A12 (l.length + 1) c12)) (hC : Kd.C k47 W A12 (l ++ [d]).length (l ++ [d])) (hc : (l ++ [d]).length ≤ c12) (hn : W.heap.size = n) :
    Calls Tryd.prog 43 #[.slice (some ⟨n, 0, none⟩) 5 5] (W.alloc (.cells #[.int .i64 1, .func (.func 44) #[] #[.pointer (some ⟨w.heap.size, 0, none⟩), .pointer (some ⟨k7, 0, none⟩)],
      .int .i64 11, .func (.func 46) #[] #[.pointer (some ⟨w.heap.size + 1 + 1, 0, none⟩), .pointer (some ⟨w.heap.size, 0, none⟩)],
      .int .i64 9, .func (.func 47) #[] #[.pointer (some ⟨w.heap.size, 0, none⟩), .pointer (some ⟨w.heap.size + 1, 0, none⟩)],
      .int .i64 10, .func (.func 48) #[] #[.pointer (some ⟨k7, 0, none⟩), .pointer (some ⟨w.heap.size, 0, none⟩)],
      .int .i64 3, .func (.func 50) #[] #[.pointer (some ⟨w.heap.size, 0, none⟩), .pointer (some ⟨w.heap.size + 1 + 1, 0, none⟩)]] 79)) fun e w' => e = .returned (.int .i64 (mayE t l d)) ∧ Below w.heap.size w w' := by
  subst hn
  have hlen : (l ++ [d]).length = l.length + 1 := by simp
  have hk7 := World.block_lt_of_cell? W _ c7
  have hWB : Below w.heap.size w W := h4.trans (hB.mono h4.size)
  refine (first_any W.heap.size 5 (looksOf w k7 t l d) (W.alloc (.cells (lkCells (looksOf w k7 t l d)) 79)) (heap_alloc_new _ _) (Nat.le_refl _) (by simp [looksOf]) (looks_enter w k7 t l d) ?_).mono ?_
  · intro i x hx hN W2 hW2
    have hB2 : Below W.heap.size W W2 := ((Below.refl _ _).alloc (Nat.le_refl _) _).trans (hW2.mono (by simp))
    have g1 : W2.heap[w.heap.size]? = some (crO t) := (hB2.block _ (Nat.lt_of_lt_of_le (blk_lt h1) hB.size)).trans ((hB.block _ (blk_lt h1)).trans h1)
    have g2 : W2.heap[w.heap.size + 1]? = some (slO A l.length c) := (hB2.block _ (Nat.lt_of_lt_of_le (blk_lt h2) hB.size)).trans ((hB.block _ (blk_lt h2)).trans h2)
    have g3 : W2.heap[w.heap.size + 1 + 1]? = some (drO d) := (hB2.block _ (Nat.lt_of_lt_of_le (blk_lt h3) hB.size)).trans ((hB.block _ (blk_lt h3)).trans h3)
    have g7 : W2.cell? ⟨k7, 0, none⟩ = some (.slice A12 (l ++ [d]).length c12) := by rw [hlen]; exact (hB2.cell (p := ⟨k7, 0, none⟩) hk7).trans c7
    have gC : Kd.C k47 W2 A12 (l ++ [d]).length (l ++ [d]) := Kd.C_below hC hB2
    have gl : (l ++ [d]).length ≤ 1000 := by omega
    match i, hx with
    | 0, hx =>
      obtain rfl := Option.some.inj hx
      exact look1_any g1 g7 gC hc gl
    | 1, hx =>
      obtain rfl := Option.some.inj hx
      exact look2_any g3 g1
    | 2, hx =>
      obtain rfl := Option.some.inj hx
      exact look3_any g1 g2
    | 3, hx =>
      obtain rfl := Option.some.inj hx
      have h0 : look1 t (l ++ [d]) = false := hN 0 _ (by omega) rfl
      simp only [look1, Bool.or_eq_false_iff, Bool.not_eq_false'] at h0
      exact look4_any g1 g7 gC hc gl h0.1 h0.2
    | 4, hx =>
      obtain rfl := Option.some.inj hx
      have h0 : look1 t (l ++ [d]) = false := hN 0 _ (by omega) rfl
      simp only [look1, Bool.or_eq_false_iff, Bool.not_eq_false'] at h0
      exact look5_any g1 g3 h0.1
    | i + 5, hx => simp [looksOf] at hx
  · rintro e w' ⟨rfl, hb⟩
    exact ⟨by rw [looks_first], (hWB.alloc hWB.size _).trans (hb.mono (by have := hWB.size; simp; omega))⟩
end

set_option maxRecDepth 100000 in
set_option maxHeartbeats 4000000 in
theorem mayd_any (A : Option Addr) (c : Nat) (t : Tm) (l : List S47) (d : S47) (w : World) (hr : Kd.C k47 w A l.length l) (hc : l.length ≤ c) (hl : l.length ≤ 800) :
    Calls Tryd.prog 39 #[crV t, .slice A l.length c, drV d] w fun e w' => e = .returned (.int .i64 (mayE t l d)) ∧ Below w.heap.size w w' := by
  have HR := Aside0.mk hr
  have HC := Aside0.mk hc
  have HL := Aside0.mk hl
  have h1 : (((w.alloc (crO t)).alloc (slO A l.length c)).alloc (drO d)).heap[w.heap.size]? = some (crO t) := by rw [heap_alloc_old _ _ (by simp; omega), heap_alloc_old _ _ (by simp), heap_alloc_new]
  have h2 : (((w.alloc (crO t)).alloc (slO A l.length c)).alloc (drO d)).heap[w.heap.size + 1]? = some (slO A l.length c) := by rw [heap_alloc_old _ _ (by simp)]; have := heap_alloc_new (w.alloc (crO t)) (slO A l.length c); rwa [World.size_alloc] at this
  have h3 : (((w.alloc (crO t)).alloc (slO A l.length c)).alloc (drO d)).heap[w.heap.size + 1 + 1]? = some (drO d) := by have := heap_alloc_new ((w.alloc (crO t)).alloc (slO A l.length c)) (drO d); rwa [World.size_alloc, World.size_alloc] at this
  have h4 : Below w.heap.size w (((w.alloc (crO t)).alloc (slO A l.length c)).alloc (drO d)) := below_al (below_al (below_al (Below.refl _ _) _) _) _
  have h5 : (((w.alloc (crO t)).alloc (slO A l.length c)).alloc (drO d)).heap.size = w.heap.size + 1 + 1 + 1 := by simp
  clear hr hc hl
  go_enter Tryd.func39, Tryd.ntmps39
  go_wp2_with fail
  generalize (((w.alloc (crO t)).alloc (slO A l.length c)).alloc (drO d)) = W0 at h1 h2 h3 h4 h5 ⊢
  have c4 := one_cell h2
  have c50 : W0.cell? ⟨w.heap.size + 1 + 1, 0, none⟩ = some (.int .i64 d.f0) := by simp [World.cell?, h3]
  have c51 : W0.cell? ⟨w.heap.size + 1 + 1, 1, none⟩ = some (.int .i64 d.f1) := by simp [World.cell?, h3]
  have hz1 : w.heap.size + 1 < W0.heap.size := by omega
  have hz2 : w.heap.size + 1 + 1 < W0.heap.size := by omega
  have HR0 := Aside0.mk (Kd.C_below HR.out h4)
  have H1 := Aside0.mk h1
  have H2 := Aside0.mk h2
  have H3 := Aside0.mk h3
  have H4 := Aside0.mk h4
  have H5 := Aside0.mk h5
  clear h1 h2 h3 h4 h5
  go_region_held3 (fun w' => ∀ b o, b < W0.heap.size → w'.cell? ⟨b, o, none⟩ = W0.cell? ⟨b, o, none⟩) (first | assumption | ((refine (below_keep (W := W0) (N := W0.heap.size) ?_).1); (repeat (first | (exact HBW12.out) | (exact HBW9.out) | (with_reducible exact Below.refl _ _) | (with_reducible refine below_al ?_ _) | (with_reducible refine below_drew ?_) | (refine Below.setCell ?_ (by dsimp only; omega) _)))))
    (first
      | ((refine Kd.R_append_rows_step k47 (Rr := k47.K W0) _ ?hw (.const (.slice none 0 0)) (.tmp 8) 48 47 (.agg #[(.int .i64 0), (.int .i64 0)]) 16 ?ho Tryd.underlying48 info47 rfl (by decide) (by omega) (.slice none 0 0) [] l A l.length c (fun _ => True) (fun _ => False) ?hs ?hx (Kd.R_nil _ _ _ _ _) ?HR ?hKM (fun _ hk => hk.elim) (fun _ _ => trivial) (Below.refl _ _) (Nat.le_refl _) ?hl1 ?_); (case hs => rfl); (case hx => rfl); (case hw => rfl); (case ho => rfl); (case HR => (refine read_in HR0.out ?_; (repeat (first | (with_reducible exact Below.refl _ _) | (with_reducible refine below_al ?_ _) | (with_reducible refine below_drew ?_))))); (case hKM => (intro x cs hx; rw [k47_open hx]; exact k47_mkM _ _ _ x)); (case hl1 => (have h9 := HL.out; simp only [List.length_nil]; omega)); intro v9 w9 ho9 hb9 hg9 hat9; have HO9 := Aside0.mk ho9; have HB9 := Aside0.mk hb9; have hz9 := hb9.size; (simp only [World.size_alloc, World.drew] at hz9); (try (have hz9b : W0.heap.size < w9.heap.size := by omega)); (try (have hz9c : W0.heap.size + 1 < w9.heap.size := by omega)); have hk9 := (below_keep hb9).1; have hf9 := (below_keep hb9).2; have hB9 : Below W0.heap.size W0 w9 := (by refine Below.trans ?_ (hb9.mono ?_); rotate_left; exact Below.size (B := W0.heap.size) (w := W0) (by (repeat (first | (with_reducible exact Below.refl _ _) | (with_reducible refine below_al ?_ _) | (with_reducible refine below_drew ?_)))); (repeat (first | (with_reducible exact Below.refl _ _) | (with_reducible refine below_al ?_ _) | (with_reducible refine below_drew ?_)))); have hkeep : ∀ b o, b < W0.heap.size → w9.cell? ⟨b, o, none⟩ = W0.cell? ⟨b, o, none⟩ := (below_keep hB9).1; have HBW9 := Aside0.mk hB9; clear ho9 hb9 hg9 hat9 hB9)
      | ((refine Kd.R_append_rows_step k47 (Rr := k47.K W0) _ ?hw (.tmp 9) (.tmp 11) 48 47 (.agg #[(.int .i64 0), (.int .i64 0)]) 16 ?ho Tryd.underlying48 info47 rfl (by decide) (by omega) v9 ([] ++ l) [d] _ 1 _ (fun _ => True) (fun _ => False) ?hs (by rfl) (Kd.R_below HO9.out ?HO) ?HR ?hKM (fun _ hk => hk.elim) (fun _ _ => trivial) (HB9.out.trans (Below.mono ?HB HB9.out.size)) (Nat.le_trans HB9.out.size (Below.size (B := w9.heap.size) (w := w9) ?HB2)) ?hl1 ?_); (case hs => rfl); (case hw => rfl); (case ho => rfl); (case HO => (repeat (first | (with_reducible exact Below.refl _ _) | (with_reducible refine below_al ?_ _) | (with_reducible refine below_drew ?_)))); (case HB => (repeat (first | (with_reducible exact Below.refl _ _) | (with_reducible refine below_al ?_ _) | (with_reducible refine below_drew ?_)))); (case HB2 => (repeat (first | (with_reducible exact Below.refl _ _) | (with_reducible refine below_al ?_ _) | (with_reducible refine below_drew ?_)))); (case hKM => (intro x cs hx; rw [k47_open hx]; exact k47_mkM _ _ _ x)); (case hl1 => (have h9 := HL.out; simp only [List.nil_append]; omega)); (case HR => (refine draw_in ?_ ?_ <;> go_simp)); intro v12 w12 ho12 hb12 hg12 hat12; (obtain ⟨A12, c12, hv12, hc12, hrd12⟩ := Kd.R_reads ho12); (subst hv12); (obtain ⟨inn9, hown9⟩ := Kd.R_own HO9.out); have hk12 := (below_keep hb12).1; have hf12 := (below_keep hb12).2; have hq12 := (grown_keep (N := w9.heap.size) hg12 (own_lt hown9)).1; have hp12 := (grown_keep (N := w9.heap.size) hg12 (own_lt hown9)).2; have hB12 : Below W0.heap.size W0 w12 := (by refine Below.trans ?_ (hb12.mono ?_); rotate_left; exact Below.size (B := W0.heap.size) (w := W0) (by (repeat (first | (with_reducible exact Below.refl _ _) | (with_reducible refine below_al ?_ _) | (with_reducible refine below_drew ?_)))); (repeat (first | (with_reducible exact Below.refl _ _) | (with_reducible refine below_al ?_ _) | (with_reducible refine below_drew ?_)))); have hkeep : ∀ b o, b < W0.heap.size → w12.cell? ⟨b, o, none⟩ = W0.cell? ⟨b, o, none⟩ := (below_keep hB12).1; have HO12 := Aside0.mk ho12; have HRG12 := Aside0.mk (own_range (own_base hown9) (own_lt hown9) hat12 (by obtain ⟨q, hq⟩ := Kd.R_own ho12; exact own_lt hq)); have HC12 := Aside0.mk hc12; have HBW12 := Aside0.mk hB12; have hz12 := hb12.size; (simp only [World.size_alloc, World.drew] at hz12); clear ho12 hb12 hg12 hat12 hB12 hrd12 hc12 hown9))
  all_goals
    go_wp2_with fail
    refine (looks_end (W0 := W0) (A12 := A12) (c12 := c12) (l := l) H1.out H2.out H3.out H4.out HL.out ?_ ?_ ?_ HC12.out (by simp)).mono ?_
    · repeat (first | (exact HBW12.out) | (exact HBW9.out) | (with_reducible exact Below.refl _ _) | (with_reducible refine below_al ?_ _) | (with_reducible refine below_drew ?_) | (refine Below.setCell ?_ (by dsimp only; omega) _))
    · first
        | (go_simp; done)
        | (refine World.cell?_setCell_same _ _ _ (u := .slice none 0 0) ?_; go_simp; done)
    · refine (Kd.R_reads' (paid_keep HO12.out (fun k hk => ?_))).2.2
      have hr := HRG12.out k hk
      simp only [World.size_alloc, World.drew] at hr
      first
        | (rw [heap_alloc_old _ _ (by omega)])
        | (rw [Below.heap_setCell _ _ _ _ (by dsimp only; omega), heap_alloc_old _ _ (by omega)])
        | (rw [Below.heap_setCell _ _ _ _ (by dsimp only; omega)])
    · rintro e w' ⟨rfl, hb⟩
      have HBE := Aside0.mk hb
      clear hb
      go_wp2
      go_ret
      exact ⟨rfl, HBE.out⟩
end Go.Proofs.YthimmaffoehfaaaDoor
