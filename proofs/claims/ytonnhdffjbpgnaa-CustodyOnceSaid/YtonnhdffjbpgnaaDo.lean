/- A chain made, a hand-over or a beginning done to it: which error, and what the chain is behind it. Conditions: none. -/
import Derived.Test.YtonnhdffjbpgnaaHand
set_option linter.unusedVariables false
set_option linter.unusedSimpArgs false
set_option linter.unusedSectionVars false
namespace Go.Proofs.Ytonnhdffjbpgnaa
open Go.RowKit Go.Proofs.YtonnhdffjbpgnaaW.PrintWords Go.Proofs.YtonnhdffjbpgnaaW.PrintLast Go.Proofs.YtonnhdffjbpgnaaW.PrintMore
open Q

def Small (n : Nat) (M : List (ByteArray × List S41)) : Prop := M.length ≤ n ∧ ∀ x ∈ M, x.2.length ≤ n

theorem hands_keys (E : List BoxRow) : (hands E).map (·.1) = E.map (·.1) := by simp [hands]
theorem ChainAt.keys {w : World} {B : Nat} {ok : Nat → Prop} {p : Nat} {E : List BoxRow} {r : Nat} (h : ChainAt w B ok p E r) : ((hands E).map (·.1)).Nodup := by
  have := h.map.nodup
  rw [hands_keys]
  simpa [List.map_map, Function.comp_def] using this

theorem hand_any (B : Nat) (ok : Nat → Prop) (p r : Nat) (E : List BoxRow) (h : S41) (w : World) (hC : ChainAt w B ok p E r) (hB : B ≤ w.heap.size) (hfresh : ∀ k, w.heap.size ≤ k → ok k)
    (hS : ∀ s ∈ [h.f0, h.f1, h.f2, h.f3], s.size ≤ maxLen) (hlen : Small 1000000 (hands E)) :
    Calls Try.prog 22 #[.pointer (some ⟨p, 0, none⟩), handV h] w fun e w' =>
      ∃ E', e = .returned (.int .i64 (handE (hands E) h)) ∧ ChainAt w' B ok p E' r ∧ hands E' = handM (hands E) h ∧ Turns ok w w' := by
  rcases find_row E h.f0 with ⟨hm, hg, hn⟩ | ⟨A, x, C, hE, hx, hA, hm, hg⟩
  · refine (hand_miss B ok p r E h.f0 h.f1 h.f2 h.f3 h.f4 w hC hB hS hm hg).mono ?_
    rintro e w' ⟨he, hne, hb⟩
    exact ⟨E, he, hC.below hb, by rw [handM, if_neg hne], Turns.of_below hb⟩
  · have hl : x.2.2.length ≤ 1000000 := hlen.2 (x.1, x.2.2) (by rw [hE]; simp [hands])
    refine (hand_hit B ok p r E A C x h.f0 h.f1 h.f2 h.f3 h.f4 w hC hB hfresh hS hE hx hA hm hg hl).mono ?_
    rintro e w' ⟨he, ⟨hne, hb⟩ | ⟨h0, hT, v, hC'⟩⟩
    · exact ⟨E, he, hC.below hb, by rw [handM, if_neg hne], Turns.of_below hb⟩
    · refine ⟨_, he, hC', ?_, hT⟩
      have hnd := hC.keys
      rw [handM, if_pos h0]
      rw [hE] at hnd ⊢
      simp only [hands, List.map_append, List.map_cons] at hnd ⊢
      have hC2 : ∀ y ∈ C, y.1 ≠ h.f0 := by
        intro y hy e
        have h1 := (List.nodup_append.1 hnd).2.1
        have h2 := (List.nodup_cons.1 h1).1
        exact h2 (by rw [hx, ← e]; simpa using ⟨y.2.1, y.2.2, hy⟩)
      congr 1
      · rw [List.map_map]
        refine List.map_congr_left fun y hy => ?_
        simp [hA y hy]
      · rw [if_pos hx]
        congr 1
        rw [List.map_map]
        refine List.map_congr_left fun y hy => ?_
        simp [hC2 y hy]

def doE (M : List (ByteArray × List S41)) (h : S41) : Int := if h.f1.toList = [] then beginE M h.f0 h.f2 h.f3 h.f4 else handE M h
def doM (M : List (ByteArray × List S41)) (h : S41) : List (ByteArray × List S41) := if h.f1.toList = [] then beginM M h.f0 h.f2 h.f3 h.f4 else handM M h

theorem new_any (B : Nat) (ok : Nat → Prop) (w : World) (hB : B ≤ w.heap.size) (hfresh : ∀ k, w.heap.size ≤ k → ok k) :
    Calls Try.prog 28 #[] w fun e w' => ∃ p r, e = .returned (.pointer (some ⟨p, 0, none⟩)) ∧ ChainAt w' B ok p [] r ∧ Below w.heap.size w w' := by
  have HF := Aside0.mk hfresh
  clear hfresh
  have hmm := @run_makeMap Try.prog
  go_enter Try.func28, Try.ntmps28
  go_wp2
  go_ret
  refine ⟨w.heap.size + 1, w.heap.size, rfl, ⟨?_, ?_, by simp, by simp, ⟨HF.out _ (by omega), by omega⟩, ⟨HF.out _ (by omega), hB⟩⟩, ((Below.refl _ _).alloc (Nat.le_refl _) _).alloc (by simp) _⟩
  · have := heap_alloc_new (w.alloc (.map #[] 0)) (.cells #[.map (some w.heap.size)] 65)
    rw [World.size_alloc] at this
    exact this
  · exact (MapAt.made Value.string w).alloc _

theorem do_any (B : Nat) (ok : Nat → Prop) (p r : Nat) (E : List BoxRow) (h : S41) (w : World) (hC : ChainAt w B ok p E r) (hB : B ≤ w.heap.size) (hfresh : ∀ k, w.heap.size ≤ k → ok k)
    (hS : ∀ s ∈ [h.f0, h.f1, h.f2, h.f3], s.size ≤ maxLen) (hlen : Small 1000000 (hands E)) :
    Calls Try.prog 33 #[.pointer (some ⟨p, 0, none⟩), handV h] w fun e w' =>
      ∃ E', e = .returned (.int .i64 (doE (hands E) h)) ∧ ChainAt w' B ok p E' r ∧ hands E' = doM (hands E) h ∧ Turns ok w w' := by
  have hB1 : Below w.heap.size w (w.alloc (handO h)) := (Below.refl _ _).alloc (Nat.le_refl _) _
  have HB1 := Aside0.mk hB1
  have HC1 := Aside0.mk (hC.below hB1)
  have HS := Aside0.mk hS
  have HF := Aside0.mk hfresh
  have HL := Aside0.mk hlen
  have hE : E.length ≤ 1000000 := by have := hlen.1; simpa [hands] using this
  clear hC hS hfresh hlen hB1
  by_cases he : h.f1.toList = []
  · have h1 := HS.out h.f0 (by simp)
    have h2 := HS.out h.f2 (by simp)
    have h3 := HS.out h.f3 (by simp)
    have H1 := Aside0.mk h1
    have H2 := Aside0.mk h2
    have H3 := Aside0.mk h3
    clear h1 h2 h3
    have hd : doE (hands E) h = beginE (hands E) h.f0 h.f2 h.f3 h.f4 := by simp [doE, he]
    have hd2 : doM (hands E) h = beginM (hands E) h.f0 h.f2 h.f3 h.f4 := by simp [doM, he]
    have HD := Aside0.mk hd
    have HD2 := Aside0.mk hd2
    clear hd hd2
    go_enter Try.func33, Try.ntmps33
    go_wp2_with fail
    refine (begin_any B ok p r E h.f0 h.f2 h.f3 h.f4 _ HC1.out (by simp; omega) (fun k hk => HF.out k (by simp at hk; omega)) H1.out H2.out H3.out hE).mono ?_
    rintro e w1 ⟨E', rfl, hC', hh, hT⟩
    have HC' := Aside0.mk hC'
    have HH := Aside0.mk hh
    have HT := Aside0.mk hT
    clear hC' hh hT
    go_wp2
    go_ret
    exact ⟨E', ret_num HD.out.symm, HC'.out, by rw [HD2.out]; exact HH.out, (Turns.of_below HB1.out).trans HT.out⟩
  · have hd : doE (hands E) h = handE (hands E) h := by simp [doE, he]
    have hd2 : doM (hands E) h = handM (hands E) h := by simp [doM, he]
    have HD := Aside0.mk hd
    have HD2 := Aside0.mk hd2
    have he2 : h.f1.toList.isEmpty = false := by simpa using he
    clear hd hd2 he
    go_enter Try.func33, Try.ntmps33
    go_wp2_with fail
    refine (hand_any B ok p r E h _ HC1.out (by simp; omega) (fun k hk => HF.out k (by simp at hk; omega)) HS.out HL.out).mono ?_
    rintro e w1 ⟨E', rfl, hC', hh, hT⟩
    have HC' := Aside0.mk hC'
    have HH := Aside0.mk hh
    have HT := Aside0.mk hT
    clear hC' hh hT
    go_wp2
    go_ret
    exact ⟨E', ret_num HD.out.symm, HC'.out, by rw [HD2.out]; exact HH.out, (Turns.of_below HB1.out).trans HT.out⟩
end Go.Proofs.Ytonnhdffjbpgnaa
