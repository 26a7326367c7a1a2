/- The five looks at a draw, and the first that is wrong. Conditions: rows of at most a thousand draws. -/
import Derived.Test.YthimmaffoehfaaaDoorLooks
import Derived.Laws.EntriesVeiled
import Derived.StillTailTactics
set_option linter.unusedVariables false
set_option linter.unusedSimpArgs false
set_option linter.unusedSectionVars false
namespace Go.Proofs.YthimmaffoehfaaaDoor
open Go.RowKit Go.Proofs.YthimmaffoehfaaaDoorW.PrintWords Go.Proofs.YthimmaffoehfaaaDoorW.PrintLast Go.Proofs.YthimmaffoehfaaaDoorW.PrintMore
open Q
section
variable {w : World} {t : Tm} {l : List S47} {d : S47} {b3 b4 b5 b7 : Nat}
set_option maxRecDepth 100000 in
theorem look5_any (h3 : w.heap[b3]? = some (crO t)) (h5 : w.heap[b5]? = some (drO d)) (hb : boundsB t = true) :
    Calls Tryd.prog 50 #[.pointer (some ⟨b3, 0, none⟩), .pointer (some ⟨b5, 0, none⟩)] w fun e w' => e = .returned (.bool (look5 t d)) ∧ Below w.heap.size w w' := by
  obtain ⟨iss, app, ben, cnf, sum, abv, blw, exp, p⟩ := t
  have c5 : w.cell? ⟨b5, 1, none⟩ = some (.int .i64 d.f1) := by simp [World.cell?, h5]
  have l5 := blk_lt h5
  have l3 := blk_lt h3
  have HLE := Aside0.mk (fun W => least_any _ W hb)
  have HE : Aside0 (look5 ⟨iss, app, ben, cnf, sum, abv, blw, exp, p⟩ d = (!p && decide (d.f1 < leastI ⟨iss, app, ben, cnf, sum, abv, blw, exp, p⟩))) := ⟨rfl⟩
  obtain ⟨k0, k1, k2, k3, k4, k5, k6, k7, k8, k9, k10, k11, k12, k13, k14, k15, k16, k17⟩ := cr_at h3
  clear h3 h5 hb
  cases p with
  | true =>
    clear k0 k1 k2 k3 k4 k5 k6 k7 k8 k9 k10 k11 k12 k13 k14 k16 k17
    simp only at k15
    go_enter Tryd.func50, Tryd.ntmps50
    go_wp2
    go_quiet (fail)
    go_wp2
    go_ret
    exact ⟨by rw [HE.out]; rfl, pw_below_drewN (Below.refl _ _) _⟩
  | false =>
    simp only at k0 k1 k2 k3 k4 k5 k6 k7 k8 k9 k10 k11 k12 k13 k14 k15 k16 k17
    go_enter Tryd.func50, Tryd.ntmps50
    go_wp2
    go_region_held3 (fun w' => ∀ b o, b < w.heap.size → w'.cell? ⟨b, o, none⟩ = w.cell? ⟨b, o, none⟩) (first | (exact fun _ _ _ => rfl) | assumption)
      (first
        | (go_at_call 51; refine (HLE.out _).mono ?_; rintro e w2 ⟨rfl, hb2⟩; have hb3 : Below w.heap.size w w2 := (below_drew (Below.refl w.heap.size w)).trans hb2; have hkeep : ∀ b o, b < w.heap.size → w2.cell? ⟨b, o, none⟩ = w.cell? ⟨b, o, none⟩ := fun b o h => hb3.cell (p := ⟨b, o, none⟩) h; have HB2 := Aside0.mk hb3; clear hb2 hb3))
    go_wp2
    go_ret
    exact ⟨by rw [HE.out]; rfl, HB2.out⟩
end
end Go.Proofs.YthimmaffoehfaaaDoor
