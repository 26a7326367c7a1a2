/- A table made of goods: which error, or the table. Conditions: texts and rows as a machine can hold. -/
import Derived.Test.YtnhbbfbllkefcaaDoorTable
import Derived.Deep.RegionHeld3
set_option linter.unusedVariables false
set_option linter.unusedSimpArgs false
set_option linter.unusedSectionVars false
namespace Go.Proofs.YtnhbbfbllkefcaaDoor
open Go.RowKit Go.Proofs.YtnhbbfbllkefcaaDoorW.PrintWords Go.Proofs.YtnhbbfbllkefcaaDoorW.PrintLast Go.Proofs.YtnhbbfbllkefcaaDoorW.PrintMore
open Q

/-- Does no code come twice, from these on? -/
def onceG : List S36 → List S36 → Bool
  | _, [] => true
  | M, x :: l => (findG M x.f0).isNone && onceG (M ++ [x]) l
def errN (l : List S36) : Int := if l.any (fun x => !mayG x) then 1 else if onceG [] l = false then 5 else if 4096 < l.length then 7 else 0
/-- What New comes to. -/
def MadeAt (w : World) (l : List S36) (e : Ending) (w' : World) : Prop :=
  Below w.heap.size w w' ∧ ((errN l ≠ 0 ∧ e = .returned (.tuple #[.pointer none, .int .i64 (errN l)])) ∨ (errN l = 0 ∧ ∃ g r, e = .returned (.tuple #[.pointer (some ⟨g, 0, none⟩), .int .i64 0]) ∧ TabAt w' g r l ∧ w.heap.size ≤ g ∧ w.heap.size ≤ r))
theorem g_cells {w : World} {g : Nat} {x : S36} (h : w.heap[g]? = some (gO x)) : w.cell? ⟨g, 0, none⟩ = some (.string x.f0) ∧ w.cell? ⟨g, 1, none⟩ = some (.int .i64 x.f1) ∧ w.cell? ⟨g, 2, none⟩ = some (.int .i64 x.f2) ∧ w.cell? ⟨g, 3, none⟩ = some (.int .i64 x.f3) := by
  refine ⟨?_, ?_, ?_, ?_⟩ <;> simp [World.cell?, h]
theorem TabAt.new (w : World) : TabAt ((w.alloc (.map #[] 0)).alloc (.cells #[.map (some w.heap.size)] 56)) (w.heap.size + 1) w.heap.size [] where
  blk := by
    have := heap_alloc_new (w.alloc (.map #[] 0)) (.cells #[.map (some w.heap.size)] 56)
    rwa [World.size_alloc] at this
  map := (MapAt.made Value.string w).alloc _
theorem TabAt.put {w w' : World} {g r : Nat} {M : List S36} {x : S36} (h : TabAt w g r M) (hm : MapAt Value.string w' r (mput (M.map gE) x.f0 (vG x))) (ht : Turned r w w') (hf : findG M x.f0 = none) : TabAt w' g r (M ++ [x]) where
  blk := (ht.block g (fun e => by
    subst e
    obtain ⟨es, clock, hb, _⟩ := h.map
    rw [h.blk] at hb
    cases hb)).trans h.blk
  map := by rw [← mput_new M x hf]; exact hm
set_option maxRecDepth 100000 in
theorem make_any (A : Option Addr) (c : Nat) (l : List S36) (w : World) (hr : Kd.C k36 w A l.length l) (hc : l.length ≤ c) (hs : SizedG l) :
    Calls Tryd.prog 12 #[.slice A l.length c] w (MadeAt w l) := by
  have hu36 := Tryd.underlying36
  have hmm := @run_makeMap Tryd.prog
  have HR := Aside0.mk hr
  have HC := Aside0.mk hc
  have HS := Aside0.mk hs
  have hl48 : l.length ≤ maxLen := hr.2.1
  unfold maxLen at hl48
  have HT := Aside0.mk (TabAt.new w)
  have HB := Aside0.mk (((Below.refl w.heap.size w).alloc (Nat.le_refl _) (.map #[] 0)).alloc (by simp) (.cells #[.map (some w.heap.size)] 56))
  have HEG := Aside0.mk (fun args W => show (callFunc 24 args).run Tryd.prog W = .ok (.enter 24 args) W by kernel_rfl)
  clear hr hc hs
  go_enter Tryd.func12, Tryd.ntmps12
  go_wp2_with fail
  refine (hasG_any 24 #[] HEG.out (fun x => !mayG x) A c l _ (Kd.C_below HR.out HB.out) HC.out (new1_any l _ HS.out)).mono ?_
  rintro e w2 ⟨rfl, hb2⟩
  have HB2 := Aside0.mk (HB.out.trans (hb2.mono HB.out.size))
  have HT2 := Aside0.mk (HT.out.below hb2)
  clear hb2 HB HT
  obtain ⟨b, hb⟩ : ∃ b, b = l.any (fun x => !mayG x) := ⟨_, rfl⟩
  rw [← hb]
  have HA := Aside0.mk hb
  clear hb
  cases b with
  | true =>
    go_wp2
    go_ret2
    have he : errN l = 1 := by unfold errN; rw [if_pos HA.out.symm]
    exact ⟨HB2.out, .inl ⟨by rw [he]; decide, by rw [he]; rfl⟩⟩
  | false =>
    obtain ⟨res, hres⟩ : ∃ res, res = onceG [] l := ⟨_, rfl⟩
    have HRES := Aside0.mk hres
    clear hres
    obtain ⟨g, hg⟩ : ∃ g, g = w.heap.size + 1 := ⟨_, rfl⟩
    obtain ⟨r, hrr⟩ : ∃ r, r = w.heap.size := ⟨_, rfl⟩
    have HGR : Aside0 (w.heap.size ≤ g ∧ w.heap.size ≤ r) := ⟨by omega⟩
    rw [← hg, ← hrr] at HT2
    go_wp2_with fail
    rw [← hg]
    clear hg hrr
    go_loopg [16] (l.length + 1) (fun kq v wr => ∃ i : Nat, v = .int .i64 i ∧ i ≤ l.length ∧ l.length < i + kq ∧ Aside0 (onceG (l.take i) (l.drop i) = res) ∧ Aside0 (TabAt wr g r (l.take i)) ∧ Aside0 (Below w.heap.size w wr))
    case atStart => exact ⟨0, rfl, Nat.zero_le _, by omega, ⟨by rw [HRES.out]; rfl⟩, HT2, HB2⟩
    case round =>
      clear HT2 HB2
      obtain ⟨i, rfl, hi, hk, HI, HT, HB⟩ := hrel
      by_cases hlt : i < l.length
      · obtain ⟨ad, rfl, y0, y1, y2, y3⟩ := at_T36 (Kd.C_below HR.out HB.out) (i : Int) (by omega) (by omega)
        rw [Int.toNat_natCast] at y0 y1 y2 y3
        have hdr := rd_G hlt
        have hgt := get_G hlt
        obtain ⟨x, hx⟩ : ∃ x, x = rd_T36 l (i : Int) := ⟨_, rfl⟩
        rw [← hx] at y0 y1 y2 y3 hdr hgt
        have HST : Aside0 (res = ((findG (l.take i) x.f0).isNone && onceG (l.take (i + 1)) (l.drop (i + 1)))) := ⟨by rw [← HI.out, hdr, List.take_add_one, hgt]; rfl⟩
        have HTK : Aside0 (l.take (i + 1) = l.take i ++ [x]) := ⟨by rw [List.take_add_one, hgt]; rfl⟩
        have hic : i < c := by have := HC.out; omega
        have hgl := HT.out.lt
        have hcell := HT.out.cell
        have HT2 := Aside0.mk (HT.out.below ((Below.refl wr.heap.size wr).alloc (Nat.le_refl _) (gO x)))
        have hlk := look_any (HT2.out.below (below_drew (Below.refl _ _))) x.f0
        have hcx : (wr.alloc (gO x)).cell? ⟨wr.heap.size, 0, none⟩ = some (.string x.f0) := (g_cells (heap_alloc_new wr (gO x))).1
        clear hx hdr hgt
        obtain ⟨f0, f1, f2, f3⟩ := x
        dsimp only at y0 y1 y2 y3 hlk hcx
        have hcg : (wr.alloc (gO ⟨f0, f1, f2, f3⟩)).cell? ⟨g, 0, none⟩ = some (.map (some r)) := HT2.out.cell
        have HX1 : Aside0 ((wr.alloc (gO ⟨f0, f1, f2, f3⟩)).heap[wr.heap.size]? = some (gO ⟨f0, f1, f2, f3⟩)) := ⟨heap_alloc_new _ _⟩
        have HB1 : Aside0 (Below w.heap.size w (wr.alloc (gO ⟨f0, f1, f2, f3⟩))) := ⟨HB.out.alloc HB.out.size _⟩
        have hW1 : wr.heap.size < (wr.alloc (gO ⟨f0, f1, f2, f3⟩)).heap.size := by simp
        have hgW : g < (wr.alloc (gO ⟨f0, f1, f2, f3⟩)).heap.size := by simp; omega
        have HZ := Aside0.mk (fun W1 (h : TabAt W1 g r (l.take i)) => look_any (h.below (below_drew ((Below.refl W1.heap.size W1).alloc (Nat.le_refl _) (.cells #[.string ⟨#[]⟩, .int .i64 0, .int .i64 0, .int .i64 0] 36)))) f0)
        dsimp only [gO] at hcg hcx hlk HX1 HB1 hW1 hgW
        cases hf : findG (l.take i) f0 with
        | some y =>
          rw [hf] at hlk HZ
          dsimp only [Option.map_some, Option.getD_some, Option.isSome_some] at hlk HZ
          have HF := Aside0.mk hf
          clear hf
          go_wp2_with fail
          generalize wr.alloc (.cells #[.string f0, .int .i64 f1, .int .i64 f2, .int .i64 f3] 36) = W1 at hlk HT2 hcg hcx HX1 HB1 hW1 hgW ⊢
          have hlz := HZ.out W1 HT2.out
          go_region_held3 (fun w' => w'.cell? ⟨g, 0, none⟩ = some (.map (some r)) ∧ w'.cell? ⟨wr.heap.size, 0, none⟩ = some (.string f0)) (go_keep) (first | (fail))
          all_goals
            clear hlz hlk
            go_wp2
            go_ret2
            have he : errN l = 5 := by
              have h5 : onceG [] l = false := by rw [← HRES.out, HST.out, HF.out]; rfl
              unfold errN
              rw [if_neg (by rw [← HA.out]; simp), if_pos h5]
            exact ⟨pw_below_drewN (HB1.out.alloc HB1.out.size _) 1, .inl ⟨by rw [he]; decide, by rw [he]; rfl⟩⟩
        | none =>
          rw [hf] at hlk HZ
          dsimp only [Option.map_none, Option.getD_none, Option.isSome_none, zG] at hlk HZ
          have HF := Aside0.mk hf
          clear hf
          go_wp2_with fail
          generalize wr.alloc (.cells #[.string f0, .int .i64 f1, .int .i64 f2, .int .i64 f3] 36) = W1 at hlk HT2 hcg hcx HX1 HB1 hW1 hgW ⊢
          have hlz := HZ.out W1 HT2.out
          go_region_held3 (fun w' => w'.cell? ⟨g, 0, none⟩ = some (.map (some r)) ∧ w'.cell? ⟨wr.heap.size, 0, none⟩ = some (.string f0)) (go_keep) (first | (fail))
          all_goals
            clear hlz hlk
            go_wp2_with fail
            have HT3 : Aside0 (TabAt (W1.alloc (gO ⟨⟨#[]⟩, 0, 0, 0⟩)).drew g r (l.take i)) := ⟨HT2.out.below (below_drew ((Below.refl W1.heap.size W1).alloc (Nat.le_refl _) _))⟩
            have HX3 : Aside0 ((W1.alloc (gO ⟨⟨#[]⟩, 0, 0, 0⟩)).drew.heap[wr.heap.size]? = some (gO ⟨f0, f1, f2, f3⟩)) := ⟨((below_drew ((Below.refl W1.heap.size W1).alloc (Nat.le_refl _) (gO ⟨⟨#[]⟩, 0, 0, 0⟩))).block _ hW1).trans HX1.out⟩
            have HB3 : Aside0 (Below w.heap.size w (W1.alloc (gO ⟨⟨#[]⟩, 0, 0, 0⟩)).drew) := ⟨below_drew (HB1.out.alloc HB1.out.size _)⟩
            dsimp only [gO] at HT3 HX3 HB3
            generalize (W1.alloc (.cells #[.string ⟨#[]⟩, .int .i64 0, .int .i64 0, .int .i64 0] 36)).drew = W3 at HT3 HX3 HB3 ⊢
            obtain ⟨x0, x1, x2, x3⟩ := g_cells (x := ⟨f0, f1, f2, f3⟩) HX3.out
            have hcg3 := HT3.out.cell
            dsimp only at x0 x1 x2 x3
            obtain ⟨w', hup, hm', ht'⟩ := run_update (P := Tryd.prog) (strKey Tryd.underlying9) Tryd.underlying54 (HT3.out.below (below_drew (Below.refl _ _))).map f0 (vG ⟨f0, f1, f2, f3⟩)
            have HT4 : Aside0 (TabAt w' g r (l.take (i + 1))) := ⟨by rw [HTK.out]; exact TabAt.put (x := ⟨f0, f1, f2, f3⟩) (HT3.out.below (below_drew (Below.refl _ _))) hm' ht' HF.out⟩
            have HB4 : Aside0 (Below w.heap.size w w') := ⟨(below_drew HB3.out).trans (ht'.below HGR.out.2)⟩
            obtain ⟨z0, z1, z2, z3⟩ := g_cells (w := w') (x := ⟨f0, f1, f2, f3⟩) ((ht'.block _ (by have := HT.out.map.lt; omega)).trans HX3.out)
            have hcg4 := HT4.out.cell
            dsimp only at z0 z1 z2 z3
            clear hm' ht'
            go_region_held3 (fun w' => w'.cell? ⟨g, 0, none⟩ = some (.map (some r)) ∧ w'.cell? ⟨wr.heap.size, 0, none⟩ = some (.string f0) ∧ w'.cell? ⟨wr.heap.size, 1, none⟩ = some (.int .i64 f1) ∧ w'.cell? ⟨wr.heap.size, 2, none⟩ = some (.int .i64 f2) ∧ w'.cell? ⟨wr.heap.size, 3, none⟩ = some (.int .i64 f3)) (go_keep) (first | (fail))
            go_wp2_with fail
            go_roundg (gk - 1)
            case measure => omega
            case rel => exact ⟨i + 1, rfl, by omega, by omega, ⟨by rw [← HRES.out] at *; rw [HST.out, HF.out]; rfl⟩, HT4, HB4⟩
      · obtain rfl : i = l.length := by omega
        have HON : Aside0 (res = true) := ⟨by rw [← HI.out, List.drop_length]; rfl⟩
        have HTL : Aside0 (TabAt wr g r l) := ⟨by have := HT.out; rwa [List.take_length] at this⟩
        by_cases hbig : 4096 < l.length
        · go_wp2
          go_ret2
          have he : errN l = 7 := by
            unfold errN
            rw [if_neg (by rw [← HA.out]; simp), if_neg (by rw [← HRES.out, HON.out]; simp), if_pos hbig]
          exact ⟨HB.out, .inl ⟨by rw [he]; decide, by rw [he]; rfl⟩⟩
        · go_wp2
          go_ret2
          have he : errN l = 0 := by
            unfold errN
            rw [if_neg (by rw [← HA.out]; simp), if_neg (by rw [← HRES.out, HON.out]; simp), if_neg hbig]
          exact ⟨HB.out, .inr ⟨he, g, r, rfl, HTL.out, HGR.out.1, HGR.out.2⟩⟩
end Go.Proofs.YtnhbbfbllkefcaaDoor
