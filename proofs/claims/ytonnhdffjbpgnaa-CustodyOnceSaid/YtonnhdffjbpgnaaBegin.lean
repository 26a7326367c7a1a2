/- A beginning of a chain's box: which error, and what the chain is behind it. Conditions: none. -/
import Derived.Test.YtonnhdffjbpgnaaChain
set_option linter.unusedVariables false
set_option linter.unusedSimpArgs false
set_option linter.unusedSectionVars false
namespace Go.Proofs.Ytonnhdffjbpgnaa
open Go.RowKit Go.Proofs.YtonnhdffjbpgnaaW.PrintWords Go.Proofs.YtonnhdffjbpgnaaW.PrintLast Go.Proofs.YtonnhdffjbpgnaaW.PrintMore
open Q

def dayB (d : Int) : Bool := decide (0 ≤ d) && decide (d ≤ 1048576)

theorem when_any (d : Int) (w : World) : Calls Try.prog 37 #[.int .i64 d] w fun e w' => e = .returned (.bool (dayB d)) ∧ w = w' := by
  have key : ∀ b, b = dayB d → Ending.returned (.bool b) = Ending.returned (.bool (dayB d)) := fun b h => by rw [h]
  go_enter Try.func37, Try.ntmps37
  go_wp2
  all_goals
    go_ret
    exact ⟨key _ (by unfold dayB; (rw [Bool.eq_iff_iff]) <;> (first | (simp; done) | (simp; omega))), rfl⟩

def nm3 (a b c : ByteArray) : Bool := [a, b, c].all nameB
def nm4 (a b c d : ByteArray) : Bool := [a, b, c, d].all nameB
theorem nm3_any (a b c : ByteArray) (w : World) (h : ∀ s ∈ [a, b, c], s.size ≤ maxLen) :
    Calls Try.prog 36 #[.slice (some ⟨w.heap.size, 0, none⟩) 3 3] (w.alloc (.cells #[.string a, .string b, .string c] 9)) fun e w' => e = .returned (.bool (nm3 a b c)) ∧ Below (w.heap.size + 1) (w.alloc (.cells #[.string a, .string b, .string c] 9)) w' := by
  refine (names_any (some ⟨w.heap.size, 0, none⟩) 3 [a, b, c] (w.alloc (.cells #[.string a, .string b, .string c] 9)) (texts_new w [a, b, c] (by simp) (by simp)) h).mono ?_
  rintro e w' ⟨rfl, hb⟩
  rw [World.size_alloc] at hb
  exact ⟨rfl, hb⟩
theorem nm4_any (a b c d : ByteArray) (w : World) (n : Nat) (hn : w.heap.size = n) (h : ∀ s ∈ [a, b, c, d], s.size ≤ maxLen) :
    Calls Try.prog 36 #[.slice (some ⟨n, 0, none⟩) 4 4] (w.alloc (.cells #[.string a, .string b, .string c, .string d] 9)) fun e w' => e = .returned (.bool (nm4 a b c d)) ∧ Below n w w' := by
  subst hn
  refine (names_any (some ⟨w.heap.size, 0, none⟩) 4 [a, b, c, d] (w.alloc (.cells #[.string a, .string b, .string c, .string d] 9)) (texts_new w [a, b, c, d] (by simp) (by simp)) h).mono ?_
  rintro e w' ⟨rfl, hb⟩
  rw [World.size_alloc] at hb
  exact ⟨rfl, ((Below.refl w.heap.size w).alloc (Nat.le_refl _) _).trans (hb.mono (Nat.le_succ _))⟩

/-- What is wrong first with a beginning. -/
def beginE (M : List (ByteArray × List S41)) (box who place : ByteArray) (day : Int) : Int :=
  if nm3 box who place = false then 1 else if dayB day = false then 3 else if hget M box ≠ [] then 5 else if 4096 ≤ M.length then 7 else 0
def beginM (M : List (ByteArray × List S41)) (box who place : ByteArray) (day : Int) : List (ByteArray × List S41) :=
  if beginE M box who place day = 0 then M ++ [(box, [⟨box, ⟨#[]⟩, who, place, day⟩])] else M

theorem zero22 (w : World) : (zeroValue 22).run Try.prog w = .ok (.slice none 0 0) w := by kernel_rfl
theorem ret_num {a b : Int} (h : a = b) : Ending.returned (.int .i64 a) = .returned (.int .i64 b) := by rw [h]

theorem below_alloc1 {w w' : World} {o : Obj} (h : Below (w.heap.size + 1) (w.alloc o) w') : Below w.heap.size w w' :=
  ((Below.refl w.heap.size w).alloc (Nat.le_refl _) o).trans (h.mono (Nat.le_succ _))

set_option maxRecDepth 100000 in
theorem begin_any (B : Nat) (ok : Nat → Prop) (p r : Nat) (E : List BoxRow) (box who place : ByteArray) (day : Int) (w : World) (hC : ChainAt w B ok p E r) (hB : B ≤ w.heap.size)
    (hfresh : ∀ k, w.heap.size ≤ k → ok k) (h1 : box.size ≤ maxLen) (h2 : who.size ≤ maxLen) (h3 : place.size ≤ maxLen) (hlen : E.length ≤ 1000000) :
    Calls Try.prog 21 #[.pointer (some ⟨p, 0, none⟩), .string box, .string who, .string place, .int .i64 day] w fun e w' =>
      ∃ E', e = .returned (.int .i64 (beginE (hands E) box who place day)) ∧ ChainAt w' B ok p E' r ∧ hands E' = beginM (hands E) box who place day ∧ Turns ok w w' := by
  have hc := hC.cell
  have HC := Aside0.mk hC
  have hS : ∀ s ∈ [box, who, place], s.size ≤ maxLen := by simp [h1, h2, h3]
  have HS := Aside0.mk hS
  have HF := Aside0.mk hfresh
  clear hS hfresh h1 h2 h3
  have hhl : (hands E).length = E.length := by simp [hands]
  have HHL := Aside0.mk hhl
  clear hhl
  rcases find_row E box with ⟨hm, hg, hn⟩ | ⟨A, x, C, hE, hx, hA, hm, hg⟩
  · have hlk := run_lookup_miss (P := Try.prog) (strKey Try.underlying9) Try.underlying63 hC.map box hm (zero22 w) true
    simp only [if_true] at hlk
    have HM := Aside0.mk hm
    have HG := Aside0.mk hg
    have HN := Aside0.mk hn
    clear hC hm hg hn
    go_enter Try.func21, Try.ntmps21
    go_wp2_with fail
    refine (nm3_any box who place w HS.out).mono ?_
    rintro e w1 ⟨rfl, hb1⟩
    have HB1 := Aside0.mk (below_alloc1 hb1)
    have hc1 := (HB1.out.cell (p := ⟨p, 0, none⟩) HC.out.plt).trans hc
    clear hb1 hlk hc
    go_wp2_with (first
      | (go_at_call 37; refine (when_any _ _).mono ?_; rintro e w' ⟨rfl, rfl⟩)
      | (at_len; refine wpList_len_at rfl _ 63 rfl Try.underlying63 rfl (HC.out.below HB1.out).map ?_)
      | (at_mapUpdate; refine wpList_update_at rfl _ _ _ 63 rfl (strKey Try.underlying9) Try.underlying63 box (.slice (some ⟨w1.heap.size, 0, none⟩) 1 1) rfl rfl rfl ((HC.out.below HB1.out).map.alloc _) ?_; intro w2 hM2 hT2; have HM2 := Aside0.mk hM2; have HT2 := Aside0.mk hT2; clear hM2 hT2))
    · have h1 : nm3 box who place = false := by simp_all
      have he : beginE (hands E) box who place day = 1 := by simp [beginE, h1]
      go_ret
      exact ⟨E, ret_num he.symm, HC.out.below HB1.out, by simp [beginM, he], Turns.of_below HB1.out⟩
    · have h1 : nm3 box who place = true := by simp_all
      have h2 : dayB day = false := by simp_all
      have he : beginE (hands E) box who place day = 3 := by simp [beginE, h1, h2]
      go_ret
      exact ⟨E, ret_num he.symm, HC.out.below HB1.out, by simp [beginM, he], Turns.of_below HB1.out⟩
    · have h1 : nm3 box who place = true := by simp_all
      have h2 : dayB day = true := by simp_all
      have h3 : 4096 ≤ (hands E).length := by rw [HHL.out]; omega
      have he : beginE (hands E) box who place day = 7 := by simp [beginE, h1, h2, h3, HG.out]
      go_ret
      exact ⟨E, ret_num he.symm, HC.out.below HB1.out, by simp [beginM, he], Turns.of_below HB1.out⟩
    · have h1 : nm3 box who place = true := by simp_all
      have h2 : dayB day = true := by simp_all
      have h3 : ¬ 4096 ≤ (hands E).length := by rw [HHL.out]; omega
      have he : beginE (hands E) box who place day = 0 := by simp [beginE, h1, h2, h3, HG.out]
      go_ret
      have hsz := HB1.out.size
      have hB2 : Below w.heap.size w (w1.alloc (.cells #[.string box, .string ⟨#[]⟩, .string who, .string place, .int .i64 day] 41)) := HB1.out.alloc HB1.out.size _
      refine ⟨E ++ [(box, .slice (some ⟨w1.heap.size, 0, none⟩) 1 1, [⟨box, ⟨#[]⟩, who, place, day⟩])], ret_num he.symm, ?_, by rw [beginM, if_pos he]; simp [hands], ?_⟩
      · refine HC.out.more box _ _ HN.out (fun k hk hlt hr => ?_) HM2.out ?_ (by simp) (fun k hk => ?_) (by simp [Value.ownBlock])
        · rw [HT2.out.block k hr]; exact hB2.block k hlt
        · have hr1 : r < w1.heap.size := (HC.out.below HB1.out).map.lt
          refine Kd.R_mono (Kd.R_step (hand_new w1 B (fun k => k = w1.heap.size) ⟨box, ⟨#[]⟩, who, place, day⟩ (by omega) rfl) (fun k hk hlt => HT2.out.block k (by omega))) (fun k hk => ?_)
          rw [hk]
          exact HF.out _ (by omega)
        · have : w1.heap.size = k := by simpa [Value.ownBlock] using hk
          omega
      · exact (Turns.of_below hB2).trans (Turns.of_turned HT2.out HC.out.okr.1)
  · have hlk := run_lookup_hit (P := Try.prog) (strKey Try.underlying9) Try.underlying63 hC.map box x.2.1 hm true
    simp only [if_true] at hlk
    have hxm : x ∈ E := by rw [hE]; simp
    have hne : hget (hands E) box ≠ [] := by rw [hg]; exact (hC.rows x hxm).2
    obtain ⟨A0, c0, hv, _⟩ := Kd.R_reads (hC.rows x hxm).1
    rw [hv] at hlk
    have HN := Aside0.mk hne
    clear hC hm hg hne hv hE hx hA hxm
    go_enter Try.func21, Try.ntmps21
    go_wp2_with fail
    refine (nm3_any box who place w HS.out).mono ?_
    rintro e w1 ⟨rfl, hb1⟩
    have HB1 := Aside0.mk (below_alloc1 hb1)
    clear hb1 hlk hc
    go_wp2_with (go_at_call 37; refine (when_any _ _).mono ?_; rintro e w' ⟨rfl, rfl⟩)
    · have h1 : nm3 box who place = false := by simp_all
      have he : beginE (hands E) box who place day = 1 := by simp [beginE, h1]
      go_ret
      exact ⟨E, ret_num he.symm, HC.out.below HB1.out, by simp [beginM, he], Turns.of_below HB1.out⟩
    · have h1 : nm3 box who place = true := by simp_all
      have h2 : dayB day = false := by simp_all
      have he : beginE (hands E) box who place day = 3 := by simp [beginE, h1, h2]
      go_ret
      exact ⟨E, ret_num he.symm, HC.out.below HB1.out, by simp [beginM, he], Turns.of_below HB1.out⟩
    · have h1 : nm3 box who place = true := by simp_all
      have h2 : dayB day = true := by simp_all
      have he : beginE (hands E) box who place day = 5 := by simp [beginE, h1, h2, HN.out]
      go_ret
      exact ⟨E, ret_num he.symm, HC.out.below HB1.out, by simp [beginM, he], Turns.of_below HB1.out⟩
end Go.Proofs.Ytonnhdffjbpgnaa
