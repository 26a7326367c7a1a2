/- What lots weigh, by a table. Conditions: the table's goods may be; texts as a machine can hold. -/
import Derived.Test.YtnhbbfbllkefcaaDoorKnown
set_option linter.unusedVariables false
set_option linter.unusedSimpArgs false
set_option linter.unusedSectionVars false
namespace Go.Proofs.YtnhbbfbllkefcaaDoor
open Go.RowKit Go.Proofs.YtnhbbfbllkefcaaDoorW.PrintWords Go.Proofs.YtnhbbfbllkefcaaDoorW.PrintLast Go.Proofs.YtnhbbfbllkefcaaDoorW.PrintMore
open Q

theorem weight1_any (x : S36) (w : World) : Calls Tryd.prog 26 #[vG x] w fun e w' => e = .returned (.int .i64 x.f2) ∧ Below w.heap.size w w' := by
  obtain ⟨h0, h1, h2, h3⟩ := g_cells (heap_alloc_new w (gO x))
  have HB := Aside0.mk ((Below.refl w.heap.size w).alloc (Nat.le_refl _) (gO x))
  go_enter Tryd.func26, Tryd.ntmps26
  go_wp2
  go_ret
  exact ⟨rfl, HB.out⟩
def AllMay (M : List S36) : Prop := ∀ x ∈ M, mayG x = true
/-- What a piece of a lot weighs. -/
def wOf (M : List S36) (x : S38) : Int := match findG M x.f0 with
  | some y => y.f2
  | none => 0
def sumF (M : List S36) : Int → List S38 → Int × Int
  | n, [] => (n, 0)
  | n, x :: l => if 1099511627776 < n + x.f1 * wOf M x then (0, 3) else sumF M (n + x.f1 * wOf M x) l
def weightR (M : List S36) (l : List S38) : Int × Int := if knownE M l = 0 then sumF M 0 l else (0, knownE M l)
theorem find_mem {M : List S36} {c : ByteArray} {y : S36} (h : findG M c = some y) : y ∈ M ∧ y.f0 = c := ⟨List.mem_of_find?_eq_some h, by have := List.find?_some h; simpa using this⟩
theorem may_w {x : S36} (h : mayG x = true) : 1 ≤ x.f2 ∧ x.f2 ≤ 1048576 := by
  unfold mayG cntB at h
  simp only [Bool.and_eq_true, decide_eq_true_eq] at h
  exact h.1.2
theorem wOf_le {M : List S36} (h : AllMay M) (x : S38) : 0 ≤ wOf M x ∧ wOf M x ≤ 1048576 := by
  unfold wOf
  cases hf : findG M x.f0 with
  | none => simp
  | some y => have := may_w (h y (find_mem hf).1); simp only; omega
theorem wOf_look (M : List S36) (x : S38) : ∃ y : S36, (((findG M x.f0).map vG).getD zG) = vG y ∧ y.f2 = wOf M x := by
  unfold wOf
  cases hf : findG M x.f0 with
  | none => exact ⟨⟨⟨#[]⟩, 0, 0, 0⟩, rfl, rfl⟩
  | some y => exact ⟨y, rfl, rfl⟩
theorem lot_le {x : S38} (h : lotB x = true) : 1 ≤ x.f1 ∧ x.f1 ≤ 1048576 := by
  unfold lotB cntB at h
  simp only [Bool.and_eq_true, decide_eq_true_eq] at h
  exact h.2
theorem mul_le {a b : Int} (h0 : 0 ≤ a) (h1 : a ≤ 1048576) (h2 : 0 ≤ b) (h3 : b ≤ 1048576) : 0 ≤ a * b ∧ a * b ≤ 1099511627776 := by
  refine ⟨Int.mul_nonneg h0 h2, ?_⟩
  have h4 : a * b ≤ 1048576 * b := Int.mul_le_mul_of_nonneg_right h1 h2
  have h5 : (1048576 : Int) * b ≤ 1048576 * 1048576 := Int.mul_le_mul_of_nonneg_left h3 (by omega)
  omega
theorem ret_pair {a b c d : Int} (h : (a, b) = (c, d)) : Ending.returned (.tuple #[.int .i64 a, .int .i64 b]) = Ending.returned (.tuple #[.int .i64 c, .int .i64 d]) := by
  injection h with h1 h2
  rw [h1, h2]

set_option maxRecDepth 100000 in
theorem sum_any {w : World} {g r : Nat} {M : List S36} (A : Option Addr) (c : Nat) (l : List S38) (hT : TabAt w g r M) (hM : AllMay M) (hr : Kd.C k38 w A l.length l) (hc : l.length ≤ c) (hs : SizedL l) :
    Calls Tryd.prog 25 #[.pointer (some ⟨g, 0, none⟩), .slice A l.length c, .func (.func 26) #[] #[]] w fun e w' => e = .returned (.tuple #[.int .i64 (weightR M l).1, .int .i64 (weightR M l).2]) ∧ Below w.heap.size w w' := by
  have hu38 := Tryd.underlying38
  have HR := Aside0.mk hr
  have HC := Aside0.mk hc
  have HS := Aside0.mk hs
  have HM := Aside0.mk hM
  have HT := Aside0.mk hT
  have hl48 : l.length ≤ maxLen := hr.2.1
  unfold maxLen at hl48
  have HKN := Aside0.mk (known_any A c l hT hr hc hs)
  obtain ⟨n, hn⟩ : ∃ n, n = (weightR M l).1 := ⟨_, rfl⟩
  obtain ⟨e, he⟩ : ∃ e, e = (weightR M l).2 := ⟨_, rfl⟩
  rw [← hn, ← he]
  have hne : (n, e) = weightR M l := by rw [hn, he]
  unfold weightR at hne
  have HNE := Aside0.mk hne
  clear hr hc hs hM hT hn he hne
  go_enter Tryd.func25, Tryd.ntmps25
  go_wp2_with fail
  refine HKN.out.mono ?_
  rintro e2 w2 ⟨rfl, hb2⟩
  have HB2 := Aside0.mk hb2
  have HT2 := Aside0.mk (HT.out.below hb2)
  clear hb2
  obtain ⟨k, hk⟩ : ∃ k, k = knownE M l := ⟨_, rfl⟩
  rw [← hk] at HNE ⊢
  have HK := Aside0.mk hk
  clear hk
  by_cases hk0 : k = 0
  · subst hk0
    have HL : Aside0 (∀ x ∈ l, lotB x = true) := ⟨fun x hx => by
      have h := HK.out
      unfold knownE at h
      by_cases ha : l.any (fun x => !lotB x) = true
      · rw [if_pos ha] at h
        cases h
      · cases hb : lotB x with
        | true => rfl
        | false => exact absurd (List.any_eq_true.2 ⟨x, hx, by simp [hb]⟩) ha⟩
    have HN2 : Aside0 ((n, e) = sumF M 0 l) := ⟨by rw [HNE.out, if_pos rfl]⟩
    go_wp2_with fail
    go_loopg [9, 20] (l.length + 1) (fun kq sv v wr => ∃ (i : Nat) (s : Int), v = .int .i64 i ∧ sv = .int .i64 s ∧ i ≤ l.length ∧ l.length < i + kq ∧ 0 ≤ s ∧ s ≤ 1099511627776 ∧ Aside0 ((n, e) = sumF M s (l.drop i)) ∧ Aside0 (Below w.heap.size w wr))
    case atStart => exact ⟨0, 0, rfl, rfl, Nat.zero_le _, by omega, by omega, by omega, HN2, HB2⟩
    case round =>
      obtain ⟨i, s, rfl, rfl, hi, hkk, hs0, hs1, HI, HB⟩ := hrel
      by_cases hlt : i < l.length
      · obtain ⟨ad, rfl, y0, y1⟩ := at_T38 (Kd.C_below HR.out HB.out) (i : Int) (by omega) (by omega)
        rw [Int.toNat_natCast] at y0 y1
        have hdr := rd_L hlt
        have hgt := get_L hlt
        obtain ⟨x, hx⟩ : ∃ x, x = rd_T38 l (i : Int) := ⟨_, rfl⟩
        rw [← hx] at y0 y1 hdr hgt
        have hlb := lot_le (HL.out x (List.mem_of_getElem? hgt))
        have hwb := wOf_le HM.out x
        obtain ⟨hp0, hp1⟩ := mul_le (by omega) hlb.2 hwb.1 hwb.2
        have HST : Aside0 ((n, e) = if 1099511627776 < s + x.f1 * wOf M x then (0, 3) else sumF M (s + x.f1 * wOf M x) (l.drop (i + 1))) := ⟨by rw [HI.out, hdr, sumF]⟩
        have hic : i < c := by have := HC.out; omega
        have HT3 := HT.out.below HB.out
        have HBA : Below wr.heap.size wr (wr.alloc (lO x)) := (Below.refl wr.heap.size wr).alloc (Nat.le_refl _) (lO x)
        have HT4 := HT3.below HBA
        obtain ⟨yg, hyg, hyw⟩ := wOf_look M x
        have hlk := look_one (HT4.below (below_drew (Below.refl _ _))) x.f0
        rw [hyg] at hlk
        have hcg := HT4.cell
        obtain ⟨hx0, hx1⟩ := l_cells (heap_alloc_new wr (lO x))
        have HB4 : Aside0 (Below w.heap.size w (wr.alloc (lO x))) := ⟨HB.out.trans (HBA.mono HB.out.size)⟩
        have HW1 := Aside0.mk (fun W => weight1_any yg W)
        rw [hyw] at HW1
        have hgl := HT4.lt
        have hxl : wr.heap.size < (wr.alloc (lO x)).heap.size := by simp
        obtain ⟨wx, hwx⟩ : ∃ wx, wx = wOf M x := ⟨_, rfl⟩
        rw [← hwx] at HST HW1 hwb hp0 hp1
        obtain ⟨pr, hpr⟩ : ∃ pr, pr = x.f1 * wx := ⟨_, rfl⟩
        rw [← hpr] at HST hp0 hp1
        have hm1 : IntKind.i64.wrap (x.f1 * wx) = pr := by rw [← hpr, IntWalk.i64_in _ (by omega)]
        have hm2 : IntKind.i64.wrap (s + pr) = s + pr := IntWalk.i64_in _ (by omega)
        have HXE := Aside0.mk hx
        clear hdr hgt hx HT3 HBA HT4 hyg hyw hwx hpr hlb
        obtain ⟨f0, f1⟩ := x
        dsimp only [lO] at y0 y1 hlk hcg hx0 hx1 HB4 hgl hxl hm1
        by_cases hbig : 1099511627776 < s + pr
        · go_wp2_with fail
          generalize wr.alloc (.cells #[.string f0, .int .i64 f1] 38) = W1 at hlk hcg hx0 hx1 HB4 hgl hxl ⊢
          go_region_held3 (fun w' => w'.cell? ⟨g, 0, none⟩ = some (.map (some r)) ∧ w'.cell? ⟨wr.heap.size, 0, none⟩ = some (.string f0) ∧ w'.cell? ⟨wr.heap.size, 1, none⟩ = some (.int .i64 f1)) (go_keep)
            (first
              | (go_at_call 26; refine (HW1.out _).mono ?_; rintro e5 w5 ⟨rfl, hb5⟩; have HB5 := Aside0.mk (HB4.out.trans (((below_drew (Below.refl W1.heap.size W1)).trans hb5).mono HB4.out.size)); have k0 := (below_keep ((below_drew (Below.refl W1.heap.size W1)).trans hb5)).1 g 0 hgl; have k1 := (below_keep ((below_drew (Below.refl W1.heap.size W1)).trans hb5)).1 wr.heap.size 0 hxl; have k2 := (below_keep ((below_drew (Below.refl W1.heap.size W1)).trans hb5)).1 wr.heap.size 1 hxl; rw [hcg] at k0; rw [hx0] at k1; rw [hx1] at k2; clear hb5))
          all_goals
            clear hlk k0 k1 k2 hcg hx0 hx1 hm1 hm2
            go_wp2
            go_ret2
            exact ⟨ret_pair (by rw [HST.out, if_pos hbig]), HB5.out⟩
        · go_wp2_with fail
          generalize wr.alloc (.cells #[.string f0, .int .i64 f1] 38) = W1 at hlk hcg hx0 hx1 HB4 hgl hxl ⊢
          go_region_held3 (fun w' => w'.cell? ⟨g, 0, none⟩ = some (.map (some r)) ∧ w'.cell? ⟨wr.heap.size, 0, none⟩ = some (.string f0) ∧ w'.cell? ⟨wr.heap.size, 1, none⟩ = some (.int .i64 f1)) (go_keep)
            (first
              | (go_at_call 26; refine (HW1.out _).mono ?_; rintro e5 w5 ⟨rfl, hb5⟩; have HB5 := Aside0.mk (HB4.out.trans (((below_drew (Below.refl W1.heap.size W1)).trans hb5).mono HB4.out.size)); have k0 := (below_keep ((below_drew (Below.refl W1.heap.size W1)).trans hb5)).1 g 0 hgl; have k1 := (below_keep ((below_drew (Below.refl W1.heap.size W1)).trans hb5)).1 wr.heap.size 0 hxl; have k2 := (below_keep ((below_drew (Below.refl W1.heap.size W1)).trans hb5)).1 wr.heap.size 1 hxl; rw [hcg] at k0; rw [hx0] at k1; rw [hx1] at k2; clear hb5))
          all_goals
            clear hlk k0 k1 k2 hcg hx0 hx1 hm1 hm2
            go_wp2
            go_roundg (gk - 1)
            case measure => omega
            case rel => exact ⟨i + 1, s + pr, rfl, rfl, by omega, by omega, by omega, by omega, ⟨by rw [HST.out, if_neg (by omega)]⟩, HB5⟩
      · obtain rfl : i = l.length := by omega
        have HN3 : Aside0 ((n, e) = (s, 0)) := ⟨by rw [HI.out, List.drop_length]; rfl⟩
        go_wp2
        go_ret2
        exact ⟨ret_pair HN3.out.symm, HB.out⟩
  · have hkb : (k != 0) = true := by simpa using hk0
    have HN2 : Aside0 ((n, e) = (0, k)) := ⟨by rw [HNE.out, if_neg hk0]⟩
    go_wp2
    go_ret2
    exact ⟨ret_pair HN2.out.symm, HB2.out⟩
theorem weigh_any {w : World} {g r : Nat} {M : List S36} (A : Option Addr) (c : Nat) (l : List S38) (hT : TabAt w g r M) (hM : AllMay M) (hr : Kd.C k38 w A l.length l) (hc : l.length ≤ c) (hs : SizedL l) :
    Calls Tryd.prog 13 #[.pointer (some ⟨g, 0, none⟩), .slice A l.length c] w fun e w' => e = .returned (.tuple #[.int .i64 (weightR M l).1, .int .i64 (weightR M l).2]) ∧ Below w.heap.size w w' := by
  have HSU := Aside0.mk (sum_any A c l hT hM hr hc hs)
  clear hT hM hr hc hs
  generalize (weightR M l).1 = a at HSU ⊢
  generalize (weightR M l).2 = b at HSU ⊢
  go_enter Tryd.func13, Tryd.ntmps13
  go_wp2_with fail
  refine HSU.out.mono ?_
  rintro e2 w2 ⟨rfl, hb2⟩
  have HB2 := Aside0.mk hb2
  clear hb2
  go_wp2
  go_ret2
  exact ⟨rfl, HB2.out⟩
end Go.Proofs.YtnhbbfbllkefcaaDoor
