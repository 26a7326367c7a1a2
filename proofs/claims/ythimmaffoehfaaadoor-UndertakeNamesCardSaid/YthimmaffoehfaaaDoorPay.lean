/- An event that pays. Conditions: rows of at most eight hundred draws. -/
import Derived.Test.YthimmaffoehfaaaDoorPresent
import Derived.Deep.RegionLaw
set_option linter.unusedVariables false
set_option linter.unusedSimpArgs false
set_option linter.unusedSectionVars false
namespace Go.Proofs.YthimmaffoehfaaaDoor
open Go.RowKit Go.Proofs.YthimmaffoehfaaaDoorW.PrintWords Go.Proofs.YthimmaffoehfaaaDoorW.PrintLast Go.Proofs.YthimmaffoehfaaaDoorW.PrintMore
open Q

theorem LifeAt.setPaid {w : World} {B g : Nat} {t : Tm} {s : LS} {pv hv : Value} (h : LifeAt w B g t s pv hv) (v : Value) (xs : List S47) (hR : Kd.R k47 47 w B (fun _ => True) v xs) : LifeAt (w.setCell ⟨g, 23, none⟩ v) B g t { s with paid := xs } v hv where
  blk := heap_setCell_same w g 23 _ _ v h.blk
  gB := h.gB
  paid := paid_keep hR fun k hk => Below.heap_setCell _ _ _ _ (by
    rintro rfl
    obtain ⟨inner, ho⟩ := Kd.R_own hR
    obtain ⟨cells, hc⟩ := own_typed ho _ hk
    rw [h.blk] at hc
    cases hc)
  hist := hist_keep h.hist fun k hk => Below.heap_setCell _ _ _ _ (h.hlt k hk).2.2
theorem LifeAt.setHist {w : World} {B g : Nat} {t : Tm} {s : LS} {pv hv : Value} (h : LifeAt w B g t s pv hv) (v : Value) (xs : List S41) (hR : Kd.R k41 41 w B (fun _ => True) v xs) : LifeAt (w.setCell ⟨g, 24, none⟩ v) B g t { s with hist := xs } pv v where
  blk := heap_setCell_same w g 24 _ _ v h.blk
  gB := h.gB
  hist := hist_keep hR fun k hk => Below.heap_setCell _ _ _ _ (by
    rintro rfl
    obtain ⟨inner, ho⟩ := Kd.R_own hR
    obtain ⟨cells, hc⟩ := own_typed ho _ hk
    rw [h.blk] at hc
    cases hc)
  paid := paid_keep h.paid fun k hk => Below.heap_setCell _ _ _ _ (h.plt k hk).2.2

/-- What an event came to, whose draws' row may be another one. -/
def PSet (w : World) (B g : Nat) (t : Tm) (hv : Value) (r : Int) (s' : LS) (e : Ending) (w' : World) : Prop := ∃ pv', Set w B g t pv' hv r s' e w'

set_option maxRecDepth 100000 in
set_option maxHeartbeats 2000000 in
theorem pay_any {w : World} {B g : Nat} {t : Tm} {s : LS} {pv hv : Value} (h : LifeAt w B g t s pv hv) (hl : s.paid.length ≤ 800) (ev : S41) :
    Calls Tryd.prog 27 #[.pointer (some ⟨g, 0, none⟩), evV ev] w (PSet w B g t hv 0 { s with paid := s.paid ++ [⟨s.dd, s.da⟩], rp := false, st := 5 }) := by
  have h0 := h.turn (evO ev) (w' := w)
  have hT := (Turns.refl (fun k => k = g) w).alloc (evO ev)
  have HL := Aside0.mk hl
  clear hl
  obtain ⟨s', hs⟩ : ∃ s' : LS, s' = { s with paid := s.paid ++ [⟨s.dd, s.da⟩], rp := false, st := 5 } := ⟨_, rfl⟩
  rw [← hs]
  have HS := Aside0.mk hs
  clear hs
  go_enter Tryd.func27, Tryd.ntmps27
  go_wp2
  generalize w.alloc (evO ev) = W0 at h0 hT ⊢
  obtain ⟨A, c, hpv, hlc, hrd⟩ := Kd.R_reads h0.paid
  have c23 : W0.cell? ⟨g, 23, none⟩ = some pv := h0.cell 23
  rw [hpv] at c23
  have c21 : W0.cell? ⟨g, 21, none⟩ = some (.int .i64 s.dd) := h0.cell 21
  have c22 : W0.cell? ⟨g, 22, none⟩ = some (.int .i64 s.da) := h0.cell 22
  have f23 := h0.free 23
  have hg := h0.lt
  have H0 := Aside0.mk h0
  have HT := Aside0.mk hT
  have HRD := Aside0.mk hrd
  clear h h0 hT hpv hlc hrd
  go_region_law ((first
    | ((refine goes_ (N := some 10) Tryd.func40 (by kernel_rfl) rfl #[.slice A s.paid.length c] (by rfl) rfl rfl (by simp [Act.eval]) ?_); (refine (cloneD_any A c s.paid _ (Kd.C_below HRD.out ?hb) (by have := HL.out; omega)).mono ?_); (case hb => (repeat (first | (with_reducible exact Below.refl _ _) | (with_reducible refine below_al ?_ _) | (with_reducible refine below_drew ?_)))); rintro e w10 ⟨v10, rfl, hR10, hb10, hn10⟩; (refine ⟨_, rfl, ?_⟩); have HO10 := Aside0.mk hR10; have HB10 := Aside0.mk hb10; have hz10 := hb10.size; (simp only [World.size_alloc, World.drew] at hz10); (try (have hz10b : W0.heap.size < w10.heap.size := by omega)); have hk10 := (below_keep hb10).1; have hf10 := (below_keep hb10).2; have hB10 : Below W0.heap.size W0 w10 := (by refine Below.trans ?_ (hb10.mono ?_); rotate_left; exact Below.size (B := W0.heap.size) (w := W0) (by (repeat (first | (with_reducible exact Below.refl _ _) | (with_reducible refine below_al ?_ _) | (with_reducible refine below_drew ?_)))); (repeat (first | (with_reducible exact Below.refl _ _) | (with_reducible refine below_al ?_ _) | (with_reducible refine below_drew ?_)))); have hkeep := (below_keep hB10).1; have hfree := (below_keep hB10).2; have HBW10 := Aside0.mk hB10; clear hR10 hb10 hn10 hB10)
    | ((refine Kd.R_append_rows_step k47 (Rr := k47.K W0) _ ?hw (.tmp 10) (.tmp 15) 48 47 (.agg #[(.int .i64 0), (.int .i64 0)]) 16 ?ho Tryd.underlying48 info47 rfl (by decide) (by omega) v10 s.paid [⟨s.dd, s.da⟩] _ 1 _ (fun _ => True) (fun _ => False) ?hs (by rfl) (Kd.R_below HO10.out ?HO) ?HR ?hKM (fun _ hk => hk.elim) (fun _ _ => trivial) (HB10.out.trans (Below.mono ?HB HB10.out.size)) (Nat.le_trans HB10.out.size (Below.size (B := w10.heap.size) (w := w10) ?HB2)) ?hl1 ?_); (case hs => rfl); (case hw => rfl); (case ho => rfl); (case HO => (repeat (first | (with_reducible exact Below.refl _ _) | (with_reducible refine below_al ?_ _) | (with_reducible refine below_drew ?_)))); (case HB => (repeat (first | (with_reducible exact Below.refl _ _) | (with_reducible refine below_al ?_ _) | (with_reducible refine below_drew ?_)))); (case HB2 => (repeat (first | (with_reducible exact Below.refl _ _) | (with_reducible refine below_al ?_ _) | (with_reducible refine below_drew ?_)))); (case hKM => (intro x cs hx; rw [k47_open hx]; exact k47_mkM _ _ _ x)); (case hl1 => (have h9 := HL.out; omega)); (case HR => (refine draw_in ?_ ?_ <;> go_simp)); intro v16 w16 ho16 hb16 hg16 hat16; (obtain ⟨A16, c16, hv16, hc16, hrd16⟩ := Kd.R_reads ho16); (subst hv16); have hB16 : Below W0.heap.size W0 w16 := (by refine Below.trans ?_ (hb16.mono ?_); rotate_left; exact Below.size (B := W0.heap.size) (w := W0) (by (repeat (first | (with_reducible exact Below.refl _ _) | (with_reducible refine below_al ?_ _) | (with_reducible refine below_drew ?_)))); (repeat (first | (with_reducible exact Below.refl _ _) | (with_reducible refine below_al ?_ _) | (with_reducible refine below_drew ?_)))); have HO16 := Aside0.mk (Kd.R_lower ho16 (Nat.le_of_lt (Nat.lt_of_lt_of_le hg (Below.size (B := W0.heap.size) (w := W0) (by (repeat (first | (with_reducible exact Below.refl _ _) | (with_reducible refine below_al ?_ _) | (with_reducible refine below_drew ?_)))))))); have HBW16 := Aside0.mk hB16; have e18 : w16.cell? ⟨g, 18, none⟩ = some (.int .i64 s.st) := (H0.out.below hB16).cell 18; have e20 : w16.cell? ⟨g, 20, none⟩ = some (.bool s.rp) := (H0.out.below hB16).cell 20; have e23 : w16.cell? ⟨g, 23, none⟩ = some pv := (H0.out.below hB16).cell 23; have g18 := (H0.out.below hB16).free 18; have g20 := (H0.out.below hB16).free 20; have g23 := (H0.out.below hB16).free 23; clear ho16 hb16 hg16 hat16 hB16 hrd16 hc16)))
  all_goals
    go_wp2
    go_ret
    have hL := ((H0.out.below HBW16.out).setPaid _ _ (Kd.R_lower HO16.out H0.out.gB))
    have hlen : (s.paid ++ [(⟨s.dd, s.da⟩ : S47)]).length = s.paid.length + 1 := by simp
    rw [hlen] at hL
    refine ⟨.slice A16 (s.paid.length + 1) c16, rfl, ?_, ?_⟩
    · rw [HS.out]
      exact set_st (set_rp hL false) 5
    · exact (((HT.out.trans (Turns.of_below HBW16.out)).trans (turns_set _ g 23 _)).trans (turns_set _ g 20 _)).trans (turns_set _ g 18 _)
end Go.Proofs.YthimmaffoehfaaaDoor
