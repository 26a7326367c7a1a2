/- May a credit live? Conditions: texts as a machine can hold. -/
import Derived.Test.YthimmaffoehfaaaDoorMost
set_option linter.unusedVariables false
set_option linter.unusedSimpArgs false
set_option linter.unusedSectionVars false
namespace Go.Proofs.YthimmaffoehfaaaDoor
open Go.RowKit Go.Proofs.YthimmaffoehfaaaDoorW.PrintWords Go.Proofs.YthimmaffoehfaaaDoorW.PrintLast Go.Proofs.YthimmaffoehfaaaDoorW.PrintMore
open Q

def Named (t : Tm) : Prop := ∀ s ∈ [t.iss, t.app, t.ben, t.cnf], s.size ≤ 140737488351232

theorem texts_own (w : World) (B : Nat) (xs : List ByteArray) (hB : B ≤ w.heap.size) (hl : xs.length ≤ 1000) : Kd.R Kd.string 9 (w.alloc (.cells (xs.map Value.string).toArray 9)) B (fun _ => True) (.slice (some ⟨w.heap.size, 0, none⟩) xs.length xs.length) xs := by
  have h := World.ownsRow_lit (base := B) (e := 9) (size := 1) w (xs.map Value.string).toArray xs.length hB (by unfold maxLen; omega) (by simp)
  exact Kd.R_of_own (by simpa [encs] using h) (fun _ _ => trivial)

/-- Texts at the head of a block. -/
theorem texts_in {w : World} {g : Nat} (xs : List ByteArray) (zs : Array Value) (hl : xs.length ≤ 9223372036854775807) (h : w.heap[g]? = some (.cells ((xs.map Value.string).toArray ++ zs) 9)) : Kd.C Kd.string w (some ⟨g, 0, none⟩) xs.length xs := by
  refine ⟨rfl, hl, fun _ => ⟨_, rfl, fun j p hj => ⟨[.string p], rfl, rfl, fun i u hu => ?_⟩⟩⟩
  cases i with
  | succ i => simp at hu
  | zero =>
    have : Value.string p = u := by simpa using hu
    subst this
    have hlt : j < xs.length := (List.getElem?_eq_some_iff.1 hj).1
    have e : (⟨g, 0, none⟩ : Addr).add (j * Kd.string.sz + 0) = ⟨g, j, none⟩ := by
      rw [add_plain]; simp [Kd.string, Kd.scalar]
    rw [e]
    simp only [World.cell?, h]
    show ((xs.map Value.string).toArray ++ zs)[j]? = _
    rw [Array.getElem?_append_left (by simpa using hlt)]
    simp [hj]
theorem old_three (w : World) (c o1 o2 o3 : Obj) : ((((w.alloc c).alloc o1).alloc o2).alloc o3).drew.heap[w.heap.size]? = some c := by
  show ((((w.alloc c).alloc o1).alloc o2).alloc o3).heap[w.heap.size]? = some c
  rw [heap_alloc_old _ _ (by simp; omega), heap_alloc_old _ _ (by simp; omega), heap_alloc_old _ _ (by simp), heap_alloc_new]
theorem heap_alloc_new' (w : World) (o : Obj) {n : Nat} (hn : w.heap.size = n) : (w.alloc o).drew.heap[n]? = some o := by
  show (w.alloc o).heap[n]? = some o
  rw [← hn, heap_alloc_new]
theorem below_drew {B : Nat} {w w' : World} (h : Below B w w') : Below B w w'.drew := pw_below_drewN h 1
theorem cap_le (x : Nat) : 4 ≤ (Question.appendCap 4 3 9).cut x := by
  show 4 ≤ 4 + x % (2 ^ 63 - 4)
  omega

theorem may_any (t : Tm) (w : World) (hs : Named t) : Calls Tryd.prog 11 #[crV t] w fun e w' => e = .returned (.bool (mayB t)) ∧ Below w.heap.size w w' := by
  have HB := Aside0.mk ((Below.refl w.heap.size w).alloc (Nat.le_refl _) (.cells (crCells t) 35))
  have HH := Aside0.mk (heap_alloc_new w (.cells (crCells t) 35))
  have HMO := Aside0.mk (most2_any t)
  have HS := Aside0.mk hs
  clear hs
  go_enter Tryd.func11, Tryd.ntmps11
  by_cases hc : t.cnf.toList = []
  · have hce : t.cnf.toList.isEmpty = true := by simp [hc]
    have HCE := Aside0.mk hce
    have HH2 := Aside0.mk ((heap_alloc_old (w.alloc (.cells (crCells t) 35)) (.cells #[.string t.iss, .string t.app, .string t.ben] 9) (r := w.heap.size) (by simp)).trans HH.out)
    go_wp2_with ((with_reducible refine gate_dst (N := 22) rfl ?_); refine wpList_load_mid rfl 35 (.tmp 1) rfl w.heap.size 0 rfl (crCells t).toList _ (cr_range HH2.out) Tryd.underlying35 rfl (by kernel_rfl) ?_)
    refine (HMO.out _).mono ?_
    rintro e w1 ⟨rfl, hb1⟩
    have hro := texts_own (w.alloc (.cells (crCells t) 35)) 0 [t.iss, t.app, t.ben] (Nat.zero_le _) (by simp)
    rw [World.size_alloc] at hro
    have hrd := (Kd.R_reads' hro).2.2
    have HRD := Aside0.mk (Kd.C_below hrd hb1)
    have HB1 : Aside0 (Below w.heap.size w w1) := ⟨(((Below.refl _ _).alloc (Nat.le_refl _) _).alloc (by simp) _).trans (hb1.mono (by simp; omega))⟩
    clear hro hrd hb1
    have HSZ : Aside0 (∀ s ∈ [t.iss, t.app, t.ben], s.size ≤ 140737488351232) := ⟨fun s h => HS.out s (by simp at h ⊢; rcases h with h | h | h <;> simp [h])⟩
    have HM : Aside0 (mayB t = (unlikeB [] [t.iss, t.app, t.ben] && boundsB t)) := ⟨by unfold mayB; rw [if_pos hc]⟩
    go_wp2_with (go_at_call 18; refine (unlike_any (some ⟨w.heap.size + 1, 0, none⟩) 3 [t.iss, t.app, t.ben] _ HRD.out (by simp) (by simp) HSZ.out).mono ?_; rintro e w2 ⟨rfl, q, rfl⟩)
    all_goals
      go_ret
      refine ⟨?_, pw_below_drewN HB1.out _⟩
      rw [HM.out]
      first
        | (simp [*]; done)
        | (simp_all; done)
  · have hce : t.cnf.toList.isEmpty = false := by simpa using hc
    have HCE := Aside0.mk hce
    have HO3 := Aside0.mk (old_three w (.cells (crCells t) 35))
    go_wp2_with ((with_reducible refine gate_dst (N := 22) rfl ?_); refine wpList_load_mid rfl 35 (.tmp 1) rfl w.heap.size 0 rfl (crCells t).toList _ (cr_range (HO3.out _ _ _)) Tryd.underlying35 rfl (by kernel_rfl) ?_)
    refine (HMO.out _).mono ?_
    rintro e w1 ⟨rfl, hb1⟩
    have HB1 : Aside0 (Below w.heap.size w w1) := ⟨(below_drew ((((Below.refl _ _).alloc (Nat.le_refl _) _).alloc (by simp) _).alloc (by simp; omega) _ |>.alloc (by simp; omega) _)).trans (hb1.mono (by simp; omega))⟩
    have hnew : w1.heap[w.heap.size + 1 + 1 + 1]? = some (.cells (([t.iss, t.app, t.ben, t.cnf].map Value.string).toArray ++ Builtin.zeroCells #[Value.string ⟨#[]⟩] ((Question.appendCap 4 3 9).cut (w.tape w.drawn (Question.appendCap 4 3 9)) - 4)) 9) := by
      rw [hb1.block _ (by simp)]
      exact heap_alloc_new' _ _ (by simp)
    have HRD := Aside0.mk (texts_in [t.iss, t.app, t.ben, t.cnf] _ (by simp) hnew)
    have HCP := Aside0.mk (cap_le (w.tape w.drawn (Question.appendCap 4 3 9)))
    clear hb1 hnew
    have HM : Aside0 (mayB t = (unlikeB [] [t.iss, t.app, t.ben, t.cnf] && boundsB t)) := ⟨by unfold mayB; rw [if_neg hc]⟩
    go_wp2_with (go_at_call 18; refine (unlike_any (some ⟨w.heap.size + 1 + 1 + 1, 0, none⟩) _ [t.iss, t.app, t.ben, t.cnf] _ HRD.out HCP.out (by simp) HS.out).mono ?_; rintro e w2 ⟨rfl, q, rfl⟩)
    all_goals
      go_ret
      refine ⟨?_, pw_below_drewN HB1.out _⟩
      rw [HM.out]
      first
        | (simp [*]; done)
        | (simp_all; done)
end Go.Proofs.YthimmaffoehfaaaDoor
