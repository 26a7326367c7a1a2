/- May a credit live, as the document says? Conditions: texts as a machine can hold. -/
import Derived.Test.YthimmaffoehfaaaRefs
set_option linter.unusedVariables false
set_option linter.unusedSimpArgs false
set_option linter.unusedSectionVars false
namespace Go.Proofs.Ythimmaffoehfaaa
open Go.RowKit Go.Proofs.YthimmaffoehfaaaW.PrintWords Go.Proofs.YthimmaffoehfaaaW.PrintLast Go.Proofs.YthimmaffoehfaaaW.PrintMore
open Q

def rmayB (t : Tm) (n1 n2 n3 n4 b : Bool) : Bool :=
  (n1 && n2 && n3 && !decide (t.iss.toList = t.app.toList) && !decide (t.iss.toList = t.ben.toList) && !decide (t.app.toList = t.ben.toList)) &&
  ((decide (t.cnf.toList = []) || (n4 && !decide (t.cnf.toList = t.iss.toList) && !decide (t.cnf.toList = t.app.toList) && !decide (t.cnf.toList = t.ben.toList))) && b)
theorem dec_text (a b : ByteArray) : decide (a.toList = b.toList) = decide (a = b) := by
  by_cases h : a = b
  · simp [h]
  · have : ¬ a.toList = b.toList := fun e => h (bytes_inj e)
    simp [h, this]
theorem rmay_eq (t : Tm) : mayB t = rmayB t (nameB t.iss) (nameB t.app) (nameB t.ben) (nameB t.cnf) (boundsB t) := by
  unfold mayB rmayB
  simp only [dec_text]
  by_cases hc : t.cnf.toList = []
  · rw [if_pos hc]
    have hce : decide (t.cnf.toList = []) = true := by simp [hc]
    rw [hce]
    by_cases e1 : t.iss = t.app
    · simp [unlikeB, hasB, e1]
    · by_cases e2 : t.iss = t.ben
      · simp [unlikeB, hasB, e2]
      · by_cases e3 : t.app = t.ben
        · simp [unlikeB, hasB, e3]
        · simp [unlikeB, hasB, e1, e2, e3, Ne.symm e1, Ne.symm e2, Ne.symm e3, Bool.and_assoc]
  · rw [if_neg hc]
    have hce : decide (t.cnf.toList = []) = false := by simpa using hc
    rw [hce]
    by_cases e1 : t.iss = t.app
    · simp [unlikeB, hasB, e1]
    · by_cases e2 : t.iss = t.ben
      · simp [unlikeB, hasB, e2]
      · by_cases e3 : t.app = t.ben
        · simp [unlikeB, hasB, e3]
        · by_cases e4 : t.cnf = t.iss
          · simp [unlikeB, hasB, e4]
          · by_cases e5 : t.cnf = t.app
            · simp [unlikeB, hasB, e5]
            · by_cases e6 : t.cnf = t.ben
              · simp [unlikeB, hasB, e6]
              · simp [unlikeB, hasB, e1, e2, e3, e4, e5, e6, Ne.symm e1, Ne.symm e2, Ne.symm e3, Ne.symm e4, Ne.symm e5, Ne.symm e6, Bool.and_assoc]

set_option maxRecDepth 100000 in
set_option maxHeartbeats 4000000 in
theorem rmay_any (t : Tm) (w : World) (hs : Named t) : Calls Try.prog 10 #[crV t] w fun e w' => e = .returned (.bool (mayB t)) ∧ Below w.heap.size w w' := by
  have HB := Aside0.mk ((Below.refl w.heap.size w).alloc (Nat.le_refl _) (crO t))
  have HH := Aside0.mk (heap_alloc_new w (crO t))
  have HN1 := Aside0.mk (fun W => rname_any t.iss W (hs _ (by simp)))
  have HN2 := Aside0.mk (fun W => rname_any t.app W (hs _ (by simp)))
  have HN3 := Aside0.mk (fun W => rname_any t.ben W (hs _ (by simp)))
  have HN4 := Aside0.mk (fun W => rname_any t.cnf W (hs _ (by simp)))
  have HBO := Aside0.mk (fun W => rbounds_any t W)
  rw [rmay_eq]
  generalize nameB t.iss = n1 at HN1 ⊢
  generalize nameB t.app = n2 at HN2 ⊢
  generalize nameB t.ben = n3 at HN3 ⊢
  generalize nameB t.cnf = n4 at HN4 ⊢
  generalize boundsB t = b at HBO ⊢
  obtain ⟨res, hres⟩ : ∃ res, res = rmayB t n1 n2 n3 n4 b := ⟨_, rfl⟩
  rw [← hres]
  have HRES := Aside0.mk hres
  obtain ⟨k0, k1, k2, k3, k4, k5, k6, k7, k8, k9, k10, k11, k12, k13, k14, k15, k16, k17⟩ := cr_at (heap_alloc_new w (crO t))
  clear k0 k5 k6 k7 k8 k9 k10 k11 k12 k13 k14 k15 k16 k17
  have hlt : w.heap.size < (w.alloc (crO t)).heap.size := by simp
  clear hres hs
  go_enter Try.func10, Try.ntmps10
  go_wp2
  generalize w.alloc (crO t) = W0 at HB HH k1 k2 k3 k4 hlt ⊢
  go_quiet (fail)
  go_wp2_with (first
    | ((go_at_call 24); (first | (with_reducible refine (HN1.out _).mono ?_) | (with_reducible refine (HN2.out _).mono ?_) | (with_reducible refine (HN3.out _).mono ?_) | (with_reducible refine (HN4.out _).mono ?_)); rintro e w' ⟨rfl, q, rfl⟩)
    | ((with_reducible refine gate_dst (N := 65) rfl ?_); refine wpList_load_mid rfl 32 (.tmp 1) rfl w.heap.size 0 rfl (crCells t).toList _ (cr_range (by exact HH.out)) Try.underlying32 rfl (by kernel_rfl) ?_)
    | (go_at_call 25; refine (HBO.out _).mono ?_; rintro e w' ⟨rfl, hb⟩; have HBB := Aside0.mk hb; clear hb))
  all_goals
    go_ret
    have hr := HRES.out
    unfold rmayB at hr
    first
      | (refine ⟨by simp_all, ?_⟩)
    first
      | (exact (pw_below_drewN HB.out _).trans (HBB.out.mono HB.out.size))
      | (exact pw_below_drewN HB.out _)
end Go.Proofs.Ythimmaffoehfaaa
