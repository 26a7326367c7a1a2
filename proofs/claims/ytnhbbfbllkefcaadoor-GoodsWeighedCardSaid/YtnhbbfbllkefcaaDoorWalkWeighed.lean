/- The law GoodsWeighed, walked: it tells true. Conditions: the table of classes lies as the text lays it; texts and rows as a machine can hold. -/
import Derived.Test.YtnhbbfbllkefcaaDoorPureJ
import Derived.Test.YtnhbbfbllkefcaaDoorWalkTables
import Derived.Deep.DeepCutAuto
import Derived.Deep.CutRange
set_option linter.unusedVariables false
set_option linter.unusedSimpArgs false
set_option linter.unusedSectionVars false
namespace Go.Proofs.YtnhbbfbllkefcaaDoor
open Go.RowKit Go.Proofs.YtnhbbfbllkefcaaDoorW.PrintWords Go.Proofs.YtnhbbfbllkefcaaDoorW.PrintLast Go.Proofs.YtnhbbfbllkefcaaDoorW.PrintMore
open Q

def fewL (l : List S38) : Bool := decide (l.length ≤ 41) && l.all fun x => decide (x.f0.size ≤ 60) && decide (x.f1 ≤ 1099511627776)
theorem fewL_loop (l : List S38) (d : Nat) : ∀ (k i : Nat), i ≤ l.length → l.length - i = d → d < k → i ≤ 41 → supercargoref11_Few.l0 k l (i : Int) = some (decide (l.length ≤ 41) && (l.drop i).all fun x => decide (x.f0.size ≤ 60) && decide (x.f1 ≤ 1099511627776)) := by
  induction d with
  | zero =>
    intro k i hi hd hk h41
    obtain ⟨k, rfl⟩ : ∃ m, k = m + 1 := ⟨k - 1, by omega⟩
    rw [supercargoref11_Few.l0, if_neg (by omega), show l.drop i = [] from List.drop_eq_nil_of_le (by omega)]
    have : l.length ≤ 41 := by omega
    simp [this]
  | succ d ih =>
    intro k i hi hd hk h41
    obtain ⟨k, rfl⟩ : ∃ m, k = m + 1 := ⟨k - 1, by omega⟩
    have hlt : i < l.length := by omega
    rw [supercargoref11_Few.l0, if_pos (by omega)]
    by_cases h40 : i = 41
    · rw [if_pos (by omega)]
      have : ¬ l.length ≤ 41 := by omega
      simp [this]
    · have ih := ih k (i + 1) (by omega) (by omega) (by omega) (by omega)
      rw [if_neg (by omega), if_pos (by omega), rd_L hlt, List.all_cons]
      by_cases h60 : (rd_T38 l (i : Int)).f0.size ≤ 60
      · rw [if_neg (by omega)]
        by_cases hc : (rd_T38 l (i : Int)).f1 ≤ 1099511627776
        · rw [if_neg (by omega), wrap_one (by omega) (by omega), show ((i : Int) + 1) = ((i + 1 : Nat) : Int) by omega, ih]
          simp [h60, hc]
        · rw [if_pos (by omega)]
          simp [hc]
      · rw [if_pos (by omega)]
        simp [h60]
theorem fewL_any (A : Option Addr) (c : Nat) (l : List S38) (w : World) (hr : Kd.C k38 w A l.length l) (hc : l.length ≤ c) : Calls Tryd.prog 11 #[.slice A l.length c] w fun e w' => e = .returned (.bool (fewL l)) ∧ ∃ n, w' = w.drewN n := by
  have h := fewL_loop l l.length (l.length + 1) 0 (by omega) (by omega) (by omega) (by omega)
  refine (supercargoref11_Few.calls (l.length + 1) A c l (fewL l) w hr hc (by unfold supercargoref11_Few.f; rw [show (0 : Int) = ((0 : Nat) : Int) from rfl, h, List.drop_zero]; rfl)).mono ?_
  rintro e w' ⟨rfl, ⟨n, rfl⟩⟩
  exact ⟨rfl, n, rfl⟩
theorem fewL_facts {l : List S38} (h : fewL l = true) : l.length ≤ 41 ∧ ∀ x ∈ l, x.f0.size ≤ 60 := by
  unfold fewL at h
  simp only [Bool.and_eq_true, List.all_eq_true, decide_eq_true_eq] at h
  exact ⟨h.1, fun x hx => (h.2 x hx).1⟩
theorem err_may {T : List S36} (h : errN T = 0) : AllMay T ∧ onceG [] T = true := by
  unfold errN at h
  by_cases h1 : T.any (fun x => !mayG x) = true
  · rw [if_pos h1] at h; cases h
  · rw [if_neg h1] at h
    by_cases h2 : onceG [] T = false
    · rw [if_pos h2] at h; cases h
    · refine ⟨fun x hx => ?_, by simpa using h2⟩
      cases hb : mayG x with
      | true => rfl
      | false => exact absurd (List.any_eq_true.2 ⟨x, hx, by simp [hb]⟩) h1
theorem once_find {T : List S36} (h : onceG [] T = true) {y : S36} (hy : y ∈ T) : findG T y.f0 = some y := by
  have key : ∀ (l M : List S36), onceG M l = true → (∀ z ∈ M, findG M z.f0 = some z) → ∀ z ∈ M ++ l, findG (M ++ l) z.f0 = some z := by
    intro l
    induction l with
    | nil => intro M _ hM z hz; rw [List.append_nil] at hz ⊢; exact hM z hz
    | cons x l ih =>
      intro M hM hF z hz
      rw [onceG, Bool.and_eq_true] at hM
      have hn : findG M x.f0 = none := by simpa using hM.1
      have e : M ++ x :: l = (M ++ [x]) ++ l := by simp
      rw [e] at hz ⊢
      refine ih (M ++ [x]) hM.2 ?_ z hz
      intro q hq
      unfold findG at hn hF ⊢
      rw [List.find?_append]
      rcases List.mem_append.1 hq with hq | hq
      · rw [hF q hq]; rfl
      · obtain rfl : q = x := by simpa using hq
        rw [hn]
        simp
  have := key T [] h (by simp) y (by simpa using hy)
  simpa using this
theorem join_sized {l : List S38} (hs : SizedL l) : SizedL (joinL l) := by
  intro x hx
  unfold joinL at hx
  obtain ⟨k, hk, rfl⟩ := List.mem_map.1 hx
  have hk2 := (sorted_self _).mem_iff.1 hk
  obtain ⟨p, hp, rfl⟩ := List.mem_map.1 hk2
  rcases (cnt_keys l []).1 p hp with ⟨y, hy, e⟩ | ⟨q, hq, _⟩
  · show p.1.size ≤ _
    rw [← e]
    exact hs y hy
  · simp at hq
theorem below_al {w W : World} (h : Below w.heap.size w W) (o : Obj) : Below w.heap.size w (W.alloc o) := h.alloc h.size o
theorem heap_alloc_at (w : World) (o : Obj) {n : Nat} (hn : w.heap.size = n) : (w.alloc o).heap[n]? = some o := by rw [← hn, heap_alloc_new]
theorem heap_alloc_prev (w : World) (o : Obj) {n : Nat} (hn : n < w.heap.size) : (w.alloc o).heap[n]? = w.heap[n]? := ((Below.refl w.heap.size w).alloc (Nat.le_refl _) o).block _ hn
theorem R_zero {W : World} {b base : Nat} (h : W.heap[b]? = some (.cells #[] 38)) (hb : base ≤ b) : Kd.R k38 38 W base (fun _ => True) (.slice (some ⟨b, 0, none⟩) 0 0) [] :=
  ⟨fun _ _ => trivial, [], ⟨rfl, .inr ⟨b, 0, #[], rfl, hb, h, Nat.le_refl _, by decide, rfl, rfl⟩⟩, Reps.none _ _⟩
theorem kept_other {W w10 : World} {row : Option Nat} {b b2 : Nat} {o : Obj} (hg : W.grownBy w10 row) (hr : row = some b) (hne : b2 ≠ b) (h : W.heap[b2]? = some o) : w10.heap[b2]? = some o :=
  (hg.block _ (Array.getElem?_eq_some_iff.1 h).1 (fun e => hne (by rw [hr] at e; injection e))).trans h
section
variable {w : World} {g r : Nat} {M : List S36}
theorem weigh_take (A : Option Addr) (c : Nat) (l : List S38) (k : Nat) (hk : k ≤ l.length) (hT : TabAt w g r M) (hM : AllMay M) (hr : Kd.C k38 w A l.length l) (hc : l.length ≤ c) (hs : SizedL l) :
    Calls Tryd.prog 13 #[.pointer (some ⟨g, 0, none⟩), .slice A k c] w fun e w' => e = .returned (.tuple #[.int .i64 (weightR M (l.take k)).1, .int .i64 (weightR M (l.take k)).2]) ∧ Below w.heap.size w w' := by
  have hl : (l.take k).length = k := by rw [List.length_take]; omega
  have := weigh_any A c (l.take k) hT hM (Kd.C_take hr hk) (by omega) (fun x hx => hs x (List.mem_of_mem_take hx))
  rwa [hl] at this
theorem weigh_drop (A : Option Addr) (c : Nat) (l : List S38) (k : Nat) (hk : k ≤ l.length) (hT : TabAt w g r M) (hM : AllMay M) (hr : Kd.C k38 w A l.length l) (hc : l.length ≤ c) (hs : SizedL l) :
    Calls Tryd.prog 13 #[.pointer (some ⟨g, 0, none⟩), .slice (if c = k then A else A.map (·.add (k * 2))) (l.length - k) (c - k)] w fun e w' => e = .returned (.tuple #[.int .i64 (weightR M (l.drop k)).1, .int .i64 (weightR M (l.drop k)).2]) ∧ Below w.heap.size w w' := by
  have hl : (l.drop k).length = l.length - k := by rw [List.length_drop]
  have := weigh_any (if c = k then A else A.map (·.add (k * 2))) (c - k) (l.drop k) hT hM (Kd.C_drop hr hk hc) (by omega) (fun x hx => hs x (List.mem_of_mem_drop hx))
  rwa [hl] at this
end
set_option maxRecDepth 100000 in
set_option maxHeartbeats 2000000 in
theorem weighed_walk (A0 : Option Addr) (c0 : Nat) (T : List S36) (A1 : Option Addr) (c1 : Nat) (l : List S38) (cut at_ : Int) (w : World) (hr0 : Kd.C k36 w A0 T.length T) (hc0 : T.length ≤ c0) (hs0 : SizedG T) (hr1 : Kd.C k38 w A1 l.length l) (hc1 : l.length ≤ c1) (hm1 : c1 ≤ maxLen) (hs1 : SizedL l) (h : AptAt w) :
    Calls Tryd.prog 4 #[.slice A0 T.length c0, .slice A1 l.length c1, .int .i64 cut, .int .i64 at_] w fun e w' => e = .returned (.bool true) ∧ Below w.heap.size w w' := by
  have hu38 := Tryd.underlying38
  have HR0 := Aside0.mk hr0
  have HC0 := Aside0.mk hc0
  have HS0 := Aside0.mk hs0
  have HR1 := Aside0.mk hr1
  have HC1 := Aside0.mk hc1
  have HS1 := Aside0.mk hs1
  have HM1 := Aside0.mk hm1
  have HA := Aside0.mk h
  clear hr0 hc0 hs0 hr1 hc1 hs1 hm1 h
  go_enter Tryd.func4, Tryd.ntmps4
  go_wp2_with fail
  refine (awake_any _ HA.out).mono ?_
  rintro e w1 ⟨rfl, hb1⟩
  have HB1 := Aside0.mk hb1
  clear hb1
  have HFW := Aside0.mk (fewG_any A0 c0 T w1 (Kd.C_below HR0.out HB1.out) HC0.out)
  obtain ⟨b, hb⟩ : ∃ b, b = fewG T := ⟨_, rfl⟩
  rw [← hb] at HFW
  have HFB := Aside0.mk hb
  clear hb
  go_wp2_with fail
  refine HFW.out.mono ?_
  rintro e w2 ⟨rfl, n2, rfl⟩
  have HB2 : Aside0 (Below w.heap.size w (w1.drewN n2)) := ⟨pw_below_drewN HB1.out n2⟩
  clear HB1 HFW
  generalize w1.drewN n2 = w2 at HB2 ⊢
  cases b with
  | false =>
    go_wp2
    go_ret
    exact ⟨rfl, HB2.out⟩
  | true =>
    have HFL := Aside0.mk (fewL_any A1 c1 l w2 (Kd.C_below HR1.out HB2.out) HC1.out)
    obtain ⟨b, hb⟩ : ∃ b, b = fewL l := ⟨_, rfl⟩
    rw [← hb] at HFL
    have HLB := Aside0.mk hb
    clear hb
    go_wp2_with fail
    refine HFL.out.mono ?_
    rintro e w3 ⟨rfl, n3, rfl⟩
    have HB3 : Aside0 (Below w.heap.size w (w2.drewN n3)) := ⟨pw_below_drewN HB2.out n3⟩
    clear HB2 HFL
    generalize w2.drewN n3 = w3 at HB3 ⊢
    cases b with
    | false =>
      go_wp2
      go_ret
      exact ⟨rfl, HB3.out⟩
    | true =>
      by_cases hneg : cut < 0
      · go_wp2
        go_ret
        exact ⟨rfl, HB3.out⟩
      · obtain ⟨k, rfl⟩ := Int.eq_ofNat_of_zero_le (show 0 ≤ cut by omega)
        clear hneg
        by_cases hbig : l.length < k
        · go_wp2
          go_ret
          exact ⟨rfl, HB3.out⟩
        · have HMK := Aside0.mk (make_any A0 c0 T w3 (Kd.C_below HR0.out HB3.out) HC0.out HS0.out)
          go_wp2_with fail
          refine HMK.out.mono ?_
          rintro e w4 ⟨hb4, hmade⟩
          have HB4 := Aside0.mk (HB3.out.trans (hb4.mono HB3.out.size))
          clear hb4 HMK HB3
          rcases hmade with ⟨hne, rfl⟩ | ⟨h0, g, r, rfl, hT, hg, hr⟩
          · obtain ⟨n, hn⟩ : ∃ n, n = errN T := ⟨_, rfl⟩
            rw [← hn] at hne ⊢
            clear hn
            have hnb : (n != 0) = true := by simpa using hne
            go_wp2
            go_ret
            exact ⟨rfl, HB4.out⟩
          · obtain ⟨hmay, honce⟩ := err_may h0
            have HMAY := Aside0.mk hmay
            have HONCE := Aside0.mk honce
            have HT := Aside0.mk hT
            clear hT h0 hmay honce hg hr
            obtain ⟨n, hn⟩ : ∃ n, n = (weightR T l).1 := ⟨_, rfl⟩
            obtain ⟨f, hf⟩ : ∃ f, f = (weightR T l).2 := ⟨_, rfl⟩
            have HW := Aside0.mk (weigh_any A1 c1 l HT.out HMAY.out (Kd.C_below HR1.out HB4.out) HC1.out HS1.out)
            rw [← hn, ← hf] at HW
            have HN := Aside0.mk hn
            have HF := Aside0.mk hf
            clear hn hf
            go_wp2_with fail
            refine HW.out.mono ?_
            rintro e w5 ⟨rfl, hb5⟩
            have HB5 := Aside0.mk (HB4.out.trans (hb5.mono HB4.out.size))
            have HT5 := Aside0.mk (HT.out.below hb5)
            clear hb5 HW HB4 HT
            by_cases hf0 : f = 0
            · subst hf0
              obtain ⟨p1, p2, p3, p4, p5, p6⟩ := weight_parts HMAY.out HF.out.symm k
              obtain ⟨na, hna⟩ : ∃ na, na = (weightR T (l.take k)).1 := ⟨_, rfl⟩
              obtain ⟨nb, hnb⟩ : ∃ nb, nb = (weightR T (l.drop k)).1 := ⟨_, rfl⟩
              have HWT := Aside0.mk (weigh_take A1 c1 l k (by omega) HT5.out HMAY.out (Kd.C_below HR1.out HB5.out) HC1.out HS1.out)
              have HWD := Aside0.mk (fun W (hb : Below w.heap.size w W) (hT : TabAt W g r T) => weigh_drop A1 c1 l k (by omega) hT HMAY.out (Kd.C_below HR1.out hb) HC1.out HS1.out)
              rw [p1, ← hna] at HWT
              rw [p2, ← hnb] at HWD
              rw [← hna, ← hnb, ← HN.out] at p3
              rw [← hna] at p4
              rw [← hnb] at p5
              rw [← HN.out] at p6
              have HP3 := Aside0.mk p3
              have hnn : n = na + nb := p3.symm
              have hna2 : na ≤ 1099511627776 := by omega
              have hnb2 : nb ≤ 1099511627776 := by omega
              have hsum : (na + nb != n) = false := by rw [p3]; simp
              have hkc : k ≤ c1 := by have := HC1.out; omega
              have hm := HM1.out
              unfold maxLen at hm
              clear hna hnb p1 p2 p3 hnn
              go_wp2_with fail
              refine HWT.out.mono ?_
              rintro e w6 ⟨rfl, hb6⟩
              have HB6 := Aside0.mk (HB5.out.trans (hb6.mono HB5.out.size))
              have HT6 := Aside0.mk (HT5.out.below hb6)
              clear hb6 HWT HB5 HT5
              go_upto_region 14 with (fail)
              go_cut [15, 16] from 70 to 77 (fun v15 v16 wx => v15 = .int .i64 nb ∧ v16 = .int .i64 0 ∧ Aside0 (Below w.heap.size w wx) ∧ Aside0 (TabAt wx g r T))
              case first =>
                have HD := Aside0.mk (HWD.out w6 HB6.out HT6.out)
                by_cases hck : c1 = k
                · subst hck
                  rw [if_pos rfl, Nat.sub_self] at HD
                  go_wp2_with fail
                  refine HD.out.mono ?_
                  rintro e w7 ⟨rfl, hb7⟩
                  have HB7 := Aside0.mk (HB6.out.trans (hb7.mono HB6.out.size))
                  have HT7 := Aside0.mk (HT6.out.below hb7)
                  clear hb7
                  go_wp2_with fail
                  go_meet
                  exact ⟨rfl, rfl, HB7, HT7⟩
                · rw [if_neg hck] at HD
                  go_wp2_with fail
                  refine HD.out.mono ?_
                  rintro e w7 ⟨rfl, hb7⟩
                  have HB7 := Aside0.mk (HB6.out.trans (hb7.mono HB6.out.size))
                  have HT7 := Aside0.mk (HT6.out.below hb7)
                  clear hb7
                  go_wp2_with fail
                  go_meet
                  exact ⟨rfl, rfl, HB7, HT7⟩
              case rest =>
                clear HB6 HT6 HWD
                obtain ⟨rfl, rfl, HB7, HT7⟩ := hcut
                obtain ⟨hl41, hl60⟩ := fewL_facts HLB.out.symm
                have HJ := Aside0.mk (join_any A1 c1 l wc (Kd.C_below HR1.out HB7.out) HC1.out HS1.out (by omega))
                go_wp2_with fail
                refine HJ.out.mono ?_
                rintro e w8 ⟨v8, rfl, hR8, hb8⟩
                have HB8 := Aside0.mk (HB7.out.trans (hb8.mono HB7.out.size))
                have HT8 := Aside0.mk (HT7.out.below hb8)
                obtain ⟨A8, c8, rfl, hc8, hr8⟩ := Kd.R_reads hR8
                have HW8 := Aside0.mk (weigh_any A8 c8 (joinL l) HT8.out HMAY.out hr8 hc8 (join_sized HS1.out))
                have HWJ := Aside0.mk (weight_join HMAY.out HF.out.symm hl41)
                clear hR8 hb8 hr8 hc8 HJ HB7 HT7
                obtain ⟨nj, hnj⟩ : ∃ nj, nj = (weightR T (joinL l)).1 := ⟨_, rfl⟩
                obtain ⟨ej, hej⟩ : ∃ ej, ej = (weightR T (joinL l)).2 := ⟨_, rfl⟩
                rw [← hnj, ← hej] at HW8 HWJ
                rw [← HN.out] at HWJ
                clear hnj hej hl60
                go_wp2_with fail
                refine HW8.out.mono ?_
                rintro e w9 ⟨rfl, hb9⟩
                have HB9 := Aside0.mk (HB8.out.trans (hb9.mono HB8.out.size))
                have HT9 := Aside0.mk (HT8.out.below hb9)
                clear hb9 HB8 HT8 HW8
                have hnn : (n != n) = false := by simp
                have HWJ2 : Aside0 (ej = 1 ∨ (ej = 0 ∧ (nj != n) = false)) := ⟨HWJ.out.imp id fun h => ⟨h.1, by rw [h.2]; simp⟩⟩
                clear HWJ
                by_cases hneg : at_ < 0
                · rcases HWJ2.out with hj | ⟨hj, hjn⟩
                  · subst hj
                    go_wp2
                    go_ret
                    exact ⟨rfl, HB9.out⟩
                  · subst hj
                    go_wp2
                    go_ret
                    exact ⟨rfl, HB9.out⟩
                · obtain ⟨j, rfl⟩ := Int.eq_ofNat_of_zero_le (show 0 ≤ at_ by omega)
                  by_cases hjl : T.length ≤ j
                  · rcases HWJ2.out with hj | ⟨hj, hjn⟩
                    · subst hj
                      go_wp2
                      go_ret
                      exact ⟨rfl, HB9.out⟩
                    · subst hj
                      go_wp2
                      go_ret
                      exact ⟨rfl, HB9.out⟩
                  · obtain ⟨ad, rfl, y0, y1, y2, y3⟩ := at_T36 (Kd.C_below HR0.out HB9.out) (j : Int) (by omega) (by omega)
                    rw [Int.toNat_natCast] at y0 y1 y2 y3
                    have hgt := get_G (l := T) (i := j) (by omega)
                    obtain ⟨y, hy⟩ : ∃ y, y = rd_T36 T (j : Int) := ⟨_, rfl⟩
                    rw [← hy] at y0 y1 y2 y3 hgt
                    have hmem := List.mem_of_getElem? hgt
                    have HMORE := Aside0.mk (weight_more HMAY.out HF.out.symm (once_find HONCE.out hmem))
                    rw [← HN.out] at HMORE
                    have hyw := may_w (HMAY.out y hmem)
                    have hjc : j < c0 := by have := HC0.out; omega
                    have Y0 := Aside0.mk y0
                    have hj0 : (0 : Int) ≤ (j : Int) := by omega
                    have hj1 : (j : Int) < (T.length : Int) := by omega
                    have hj2 : j < T.length := by omega
                    have hsy := HS0.out y hmem
                    obtain ⟨cd, w1_, yw, v1_⟩ := y
                    dsimp only at y0 y1 y2 y3 HMORE hyw hsy
                    have hn0 : 0 ≤ n := by rw [HN.out]; obtain ⟨a1, a2, a3, a4, a5, a6⟩ := weight_parts HMAY.out HF.out.symm k; omega
                    have HR9 := Aside0.mk (Kd.C_below HR1.out HB9.out)
                    have HWZ := Aside0.mk (fun (A : Option Addr) (c : Nat) (W : World) (hb : Below w9.heap.size w9 W) (hr : Kd.C k38 W A (([] ++ l) ++ [(⟨cd, 1⟩ : S38)]).length (([] ++ l) ++ [⟨cd, 1⟩])) (hc : (([] ++ l) ++ [(⟨cd, 1⟩ : S38)]).length ≤ c) => weigh_any A c (([] ++ l) ++ [⟨cd, 1⟩]) (HT9.out.below hb) HMAY.out hr hc (fun x hx => by
                      rcases List.mem_append.1 hx with hx | hx
                      · exact HS1.out x (by simpa using hx)
                      · obtain rfl : x = ⟨cd, 1⟩ := by simpa using hx
                        exact hsy))
                    obtain ⟨m, hm⟩ : ∃ m, m = (weightR T (([] ++ l) ++ [(⟨cd, 1⟩ : S38)])).1 := ⟨_, rfl⟩
                    obtain ⟨kk, hkk⟩ : ∃ kk, kk = (weightR T (([] ++ l) ++ [(⟨cd, 1⟩ : S38)])).2 := ⟨_, rfl⟩
                    rw [← hm, ← hkk] at HWZ
                    have HK : Aside0 ((kk = 0 ∧ m = n + yw ∧ n + yw ≤ 1099511627776) ∨ kk = 3) := Aside0.mk (by
                      rw [hm, hkk, List.nil_append, HMORE.out]
                      by_cases hle : n + yw ≤ 1099511627776
                      · rw [if_pos hle]; exact .inl ⟨rfl, rfl, hle⟩
                      · rw [if_neg hle]; exact .inr rfl)
                    clear hm hkk HMORE
                    clear hy hgt hmem
                    have Y2 := Aside0.mk y2
                    rcases HWJ2.out with hj | ⟨hj, hjn⟩
                    all_goals
                      clear HWJ2
                      subst hj
                      go_wp2_with fail
                      go_region_held3 (fun w' => w'.cell? (ad.add (j * 4)) = some (.string cd)) (first | assumption | ((refine (Below.cell (B := w9.heap.size) (w := w9) ?_ (World.block_lt_of_cell? w9 _ Y0.out)).trans Y0.out); (repeat (first | (exact HB13.out) | (exact HB12.out) | (exact HB10.out) | (with_reducible exact Below.refl _ _) | (with_reducible refine below_al ?_ _) | (with_reducible refine below_drew ?_)))))
                        (first
                          | ((refine Go.Proofs.YtnhbbfbllkefcaaDoorW.PrintLast.goes_ (N := some 134) Tryd.func13 (by kernel_rfl) rfl #[.pointer (some ⟨g, 0, none⟩), .slice A12 (([] ++ l) ++ [(⟨cd, 1⟩ : S38)]).length c12] (by rfl) rfl rfl (by simp [Act.eval]) ?_); (refine (HWZ.out _ _ w12 HB12.out HR12.out HC12.out).mono ?_); rintro e w13 ⟨rfl, hb13⟩; (refine ⟨_, rfl, ?_⟩); have HB13 := Aside0.mk (bstep HB12.out hb13); clear hb13)
                          | ((refine Kd.R_append_rows_step k38 (w0 := w9) w9.heap.size ?hwa (.tmp 123) (.tmp 124) 25 38 (.agg #[(.string ⟨#[]⟩), (.int .i64 0)]) 24 ?hoa Tryd.underlying25 infoL rfl (by decide) (by omega) (.slice (some ⟨w9.heap.size, 0, none⟩) 0 0) [] l A1 l.length c1 (fun _ => True) (fun _ => False) ?hsa ?hxa (R_zero (b := w9.heap.size) ?hz1a ?hz2a) (Kd.C_below HR9.out ?hOa) ?hKMa (fun _ hk => hk.elim) (fun _ _ => trivial) ?hBa ?hSa ?hl1a ?_); (case hsa => rfl); (case hxa => rfl); (case hwa => rfl); (case hoa => rfl); (case hz1a => (first | exact heap_alloc_at _ _ (by simp) | exact (heap_alloc_prev _ _ (by simp)).trans (heap_alloc_at _ _ (by simp)))); (case hz2a => (first | exact Nat.le_refl _ | (simp; done) | (simp; omega))); (case hOa => (repeat (first | (with_reducible exact Below.refl _ _) | (with_reducible refine below_al ?_ _) | (with_reducible refine below_drew ?_)))); (case hKMa => (intro x cs hx; rw [k38_open hx]; exact k38_mkM _ _ _ x)); (case hBa => (repeat (first | (with_reducible exact Below.refl _ _) | (with_reducible refine below_al ?_ _) | (with_reducible refine below_drew ?_)))); (case hSa => exact Below.size (B := w9.heap.size) (w := w9) (by (repeat (first | (with_reducible exact Below.refl _ _) | (with_reducible refine below_al ?_ _) | (with_reducible refine below_drew ?_))))); (case hl1a => (simp only [List.length_nil]; omega)); intro v10 w10 ho10 hb10 hg10 hat10; have HO10 := Aside0.mk ho10; have HB10 := Aside0.mk hb10; (try (have HX10 := Aside0.mk (kept_other (b := w9.heap.size) (b2 := w9.heap.size + 1) (o := lO ⟨cd, 1⟩) hg10 rfl (by omega) (heap_alloc_at _ _ (by simp))))); (try (have HX10 := Aside0.mk (kept_other (b := w9.heap.size + 1) (b2 := w9.heap.size) (o := lO ⟨cd, 1⟩) hg10 rfl (by omega) ((heap_alloc_prev _ _ (by simp)).trans (heap_alloc_at _ _ (by simp)))))); clear ho10 hb10 hg10 hat10)
                          | ((refine Kd.R_append_rows_step k38 (w0 := w9) w9.heap.size ?hwb (.tmp 123) (.tmp 124) 25 38 (.agg #[(.string ⟨#[]⟩), (.int .i64 0)]) 24 ?hob Tryd.underlying25 infoL rfl (by decide) (by omega) (.slice (some ⟨w9.heap.size + 1, 0, none⟩) 0 0) [] l A1 l.length c1 (fun _ => True) (fun _ => False) ?hsb ?hxb (R_zero (b := w9.heap.size + 1) ?hz1b ?hz2b) (Kd.C_below HR9.out ?hOb) ?hKMb (fun _ hk => hk.elim) (fun _ _ => trivial) ?hBb ?hSb ?hl1b ?_); (case hsb => rfl); (case hxb => rfl); (case hwb => rfl); (case hob => rfl); (case hz1b => (first | exact heap_alloc_at _ _ (by simp) | exact (heap_alloc_prev _ _ (by simp)).trans (heap_alloc_at _ _ (by simp)))); (case hz2b => (first | exact Nat.le_refl _ | (simp; done) | (simp; omega))); (case hOb => (repeat (first | (with_reducible exact Below.refl _ _) | (with_reducible refine below_al ?_ _) | (with_reducible refine below_drew ?_)))); (case hKMb => (intro x cs hx; rw [k38_open hx]; exact k38_mkM _ _ _ x)); (case hBb => (repeat (first | (with_reducible exact Below.refl _ _) | (with_reducible refine below_al ?_ _) | (with_reducible refine below_drew ?_)))); (case hSb => exact Below.size (B := w9.heap.size) (w := w9) (by (repeat (first | (with_reducible exact Below.refl _ _) | (with_reducible refine below_al ?_ _) | (with_reducible refine below_drew ?_))))); (case hl1b => (simp only [List.length_nil]; omega)); intro v10 w10 ho10 hb10 hg10 hat10; have HO10 := Aside0.mk ho10; have HB10 := Aside0.mk hb10; (try (have HX10 := Aside0.mk (kept_other (b := w9.heap.size) (b2 := w9.heap.size + 1) (o := lO ⟨cd, 1⟩) hg10 rfl (by omega) (heap_alloc_at _ _ (by simp))))); (try (have HX10 := Aside0.mk (kept_other (b := w9.heap.size + 1) (b2 := w9.heap.size) (o := lO ⟨cd, 1⟩) hg10 rfl (by omega) ((heap_alloc_prev _ _ (by simp)).trans (heap_alloc_at _ _ (by simp)))))); clear ho10 hb10 hg10 hat10)
                          | ((refine Kd.R_append_rows_step k38 (Rr := k38.K w9) (w0 := w9) w9.heap.size ?hw2 (.tmp 125) (.tmp 132) 25 38 (.agg #[(.string ⟨#[]⟩), (.int .i64 0)]) 24 ?ho2 Tryd.underlying25 infoL rfl (by decide) (by omega) v10 ([] ++ l) [(⟨cd, 1⟩ : S38)] _ 1 _ (fun _ => True) (fun _ => False) ?hs2 (by rfl) ?HO2 ?HR2 ?hKM2 (fun _ hk => hk.elim) (fun _ _ => trivial) ?hB2 ?hS2 ?hl2 ?_); (case hs2 => rfl); (case hw2 => rfl); (case ho2 => rfl); (case HO2 => (first | exact HO10.out | exact Kd.R_below HO10.out (by (repeat (first | (with_reducible exact Below.refl _ _) | (with_reducible refine below_al ?_ _) | (with_reducible refine below_drew ?_)))))); (case HR2 => (first | exact lots_in (ys := [(⟨cd, 1⟩ : S38)]) HX10.out (Nat.le_of_ble_eq_true rfl) | exact lots_in (ys := [(⟨cd, 1⟩ : S38)]) (heap_alloc_new w10 (.cells #[.string cd, .int .i64 1] 38)) (Nat.le_of_ble_eq_true rfl) | exact lots_in (ys := [(⟨cd, 1⟩ : S38)]) (heap_alloc_new w10 (.cells ([(⟨cd, 1⟩ : S38)].flatMap lCs).toArray 38)) (Nat.le_of_ble_eq_true rfl))); (case hKM2 => (intro x cs hx; rw [k38_open hx]; exact k38_mkM _ _ _ x)); (case hB2 => (first | exact HB10.out | exact bstep HB10.out (by (repeat (first | (with_reducible exact Below.refl _ _) | (with_reducible refine below_al ?_ _) | (with_reducible refine below_drew ?_)))))); (case hS2 => exact Nat.le_trans HB10.out.size (Below.size (B := w10.heap.size) (w := w10) (by (repeat (first | (with_reducible exact Below.refl _ _) | (with_reducible refine below_al ?_ _) | (with_reducible refine below_drew ?_)))))); (case hl2 => (show (l.length + 1) * 24 ≤ 140737488355328; omega)); intro v12 w12 ho12 hb12 hg12 hat12; (obtain ⟨A12, c12, hv12, hc12, hr12⟩ := Kd.R_reads ho12); (subst hv12); have HR12 := Aside0.mk hr12; have HC12 := Aside0.mk hc12; have HB12 := Aside0.mk hb12; clear ho12 hb12 hg12 hat12 hr12 hc12))
                      all_goals
                        have z2 := (Below.cell HB13.out (World.block_lt_of_cell? w9 _ Y2.out)).trans Y2.out
                        rcases HK.out with ⟨rfl, rfl, hle⟩ | rfl
                        · go_wp2_with fail
                          go_ret
                          exact ⟨rfl, bstep HB9.out HB13.out⟩
                        · go_wp2_with fail
                          go_ret
                          exact ⟨rfl, bstep HB9.out HB13.out⟩
            · have hfb : (f != 0) = true := by simpa using hf0
              have hnz : n = 0 := by rw [HN.out]; exact weight_zero HMAY.out (by rw [← HF.out]; exact hf0)
              subst hnz
              go_wp2
              go_ret
              exact ⟨rfl, HB5.out⟩
end Go.Proofs.YtnhbbfbllkefcaaDoor
