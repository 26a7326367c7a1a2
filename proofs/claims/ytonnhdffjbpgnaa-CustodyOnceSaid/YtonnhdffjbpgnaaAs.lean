/- Who has a box as of a day. Conditions: none. -/
import Derived.Test.YtonnhdffjbpgnaaBack
set_option linter.unusedVariables false
set_option linter.unusedSimpArgs false
set_option linter.unusedSectionVars false
namespace Go.Proofs.Ytonnhdffjbpgnaa
open Go.RowKit Go.Shelf Go.Proofs.YtonnhdffjbpgnaaW.PrintWords Go.Proofs.YtonnhdffjbpgnaaW.PrintLast Go.Proofs.YtonnhdffjbpgnaaW.PrintMore
open Q

attribute [local go_sem] Oper.semAt_some

theorem run_lookup_any {K : Type} [DecidableEq K] {P : Program} {kt et t : TypeId} {enc : K → Value} (Kt : KeyTy P kt enc) (ht : P.underlying t = some (.map kt et)) {w : World} {r : Nat} {l : List (K × Value)} (h : MapAt enc w r l) (x : K) {z : Value} (hz : ∀ w, (zeroValue et).run P w = .ok z w) :
    (Instr.lookup t (.map (some r)) (enc x) false).run P w = .ok ((mget l x).getD z) w := by
  cases hx : mget l x with
  | none => rw [run_lookup_miss Kt ht h x hx (hz w) false]; rfl
  | some v => rw [run_lookup_hit Kt ht h x v hx false]; rfl

/-- What a look-up without 'ok' gives: a slice that reads as the box's hand-overs. -/
theorem ChainAt.look {w : World} {B : Nat} {ok : Nat → Prop} {p : Nat} {E : List BoxRow} {r : Nat} (h : ChainAt w B ok p E r) (box : ByteArray) : ∃ A c, (mget (E.map fun x => (x.1, x.2.1)) box).getD (.slice none 0 0) = .slice A (hget (hands E) box).length c ∧ (hget (hands E) box).length ≤ c ∧ Kd.C k41 w A (hget (hands E) box).length (hget (hands E) box) := by
  rcases find_row E box with ⟨hm, hg, hn⟩ | ⟨A, x, C, hE, hx, hA, hm, hg⟩
  · rw [hm, hg]
    exact ⟨none, 0, rfl, Nat.le_refl _, by simp, by simp, fun h => absurd h (by simp)⟩
  · rw [hm, hg]
    obtain ⟨A0, c0, hv, hl, hr⟩ := Kd.R_reads (h.rows x (by rw [hE]; simp)).1
    exact ⟨A0, c0, by rw [Option.getD_some, hv], hl, hr⟩

theorem lies_own {β : Type} (B0 b : Nat) (f : β → Obj) (hf : ∀ s, (f s).isCells = true) : OwnFrom B0 (fun s W => W.heap[b]? = some (f s)) := fun s W W' row hs hg hr =>
  (hg.block b (Array.getElem?_eq_some_iff.1 hs).1 (fun e => by
    obtain ⟨_, o, ho, hc⟩ := hr b e.symm
    rw [hs] at ho
    cases ho
    rw [hf s] at hc
    cases hc)).trans hs

/-- The boxes of the call's results. -/
structure AsBoxes (g : Nat) (day : Int) (a b : ByteArray) (c : Bool) (W : World) : Prop where
  d : Boxed W g 3 (.int .i64 day)
  r1 : Boxed W (g + 1) 9 (.string a)
  r2 : Boxed W (g + 1 + 1) 9 (.string b)
  r3 : Boxed W (g + 1 + 1 + 1) 4 (.bool c)
theorem asBoxes_own {β : Type} (B0 g : Nat) (day : Int) (a b : β → ByteArray) (c : β → Bool) : OwnFrom B0 (fun s W => AsBoxes g day (a s) (b s) (c s) W) := fun s W W' row hs hg hr =>
  ⟨(boxed_own g 3 (fun _ : β => .int .i64 day)).from B0 s W W' row hs.d hg hr, (boxed_own (g + 1) 9 (fun s : β => .string (a s))).from B0 s W W' row hs.r1 hg hr, (boxed_own (g + 1 + 1) 9 (fun s : β => .string (b s))).from B0 s W W' row hs.r2 hg hr, (boxed_own (g + 1 + 1 + 1) 4 (fun s : β => .bool (c s))).from B0 s W W' row hs.r3 hg hr⟩
theorem AsBoxes.alloc {g : Nat} {day : Int} {a b : ByteArray} {c : Bool} {W : World} (h : AsBoxes g day a b c W) (o : Obj) : AsBoxes g day a b c (W.alloc o) := ⟨h.d.alloc o, h.r1.alloc o, h.r2.alloc o, h.r3.alloc o⟩

theorem AsBoxes.s1 {g : Nat} {day : Int} {b : ByteArray} {c : Bool} {W : World} (a : ByteArray) (h : AsBoxes g day ⟨#[]⟩ b c W) : AsBoxes g day a b c (W.setCell ⟨g + 1, 0, none⟩ (.string a)) := ⟨h.d.other (by omega) _, h.r1.set _, h.r2.other (by omega) _, h.r3.other (by omega) _⟩
theorem AsBoxes.s2 {g : Nat} {day : Int} {a : ByteArray} {c : Bool} {W : World} (b : ByteArray) (h : AsBoxes g day a ⟨#[]⟩ c W) : AsBoxes g day a b c (W.setCell ⟨g + 1 + 1, 0, none⟩ (.string b)) := ⟨h.d.other (by omega) _, h.r1.other (by omega) _, h.r2.set _, h.r3.other (by omega) _⟩
theorem AsBoxes.s3 {g : Nat} {day : Int} {a b : ByteArray} {W : World} (c : Bool) (h : AsBoxes g day a b false W) : AsBoxes g day a b c (W.setCell ⟨g + 1 + 1 + 1, 0, none⟩ (.bool c)) := ⟨h.d.other (by omega) _, h.r1.other (by omega) _, h.r2.other (by omega) _, h.r3.set _⟩
theorem AsBoxes.drew {g : Nat} {day : Int} {a b : ByteArray} {c : Bool} {W : World} (h : AsBoxes g day a b c W) : AsBoxes g day a b c W.drew := ⟨h.d, h.r1, h.r2, h.r3⟩

set_option maxRecDepth 100000 in
set_option maxHeartbeats 4000000 in
theorem as_any (B : Nat) (ok : Nat → Prop) (p r : Nat) (E : List BoxRow) (box : ByteArray) (day : Int) (w : World) (hC : ChainAt w B ok p E r) :
    Calls Try.prog 13 #[.pointer (some ⟨p, 0, none⟩), .string box, .int .i64 day] w fun e w' =>
      e = .returned (.tuple #[.string (asP (hget (hands E) box) day).1, .string (asP (hget (hands E) box) day).2.1, .bool (asP (hget (hands E) box) day).2.2]) ∧ Below w.heap.size w w' := by
  rw [← callsIn_wide (n := 3)]
  have hro : Fence.wide.round = none := rfl
  refine callsIn_of_wp_marks Try.func13 rfl trivial ?_ hro
  simp only [Try.ntmps13, List.size_toArray, List.length_cons, List.length_nil, Nat.reduceAdd, Nat.reduceSub, Array.replicate_succ, Array.replicate_zero, List.push_toArray, List.append_toArray, List.nil_append, List.cons_append]
  have hplt := hC.plt
  have hB4 : Below w.heap.size w ((((w.alloc (.cells #[.int .i64 day] 3)).alloc (.cells #[.string ⟨#[]⟩] 9)).alloc (.cells #[.string ⟨#[]⟩] 9)).alloc (.cells #[.bool false] 4)) :=
    ((((Below.refl _ w).alloc (Nat.le_refl _) _).alloc (by simp) _).alloc (by simp; omega) _).alloc (by simp; omega) _
  have hc := (hB4.cell (p := ⟨p, 0, none⟩) hplt).trans hC.cell
  have HB4 := Aside0.mk hB4
  have hlk := run_lookup_any (P := Try.prog) (strKey Try.underlying9) Try.underlying63 ((((hC.map.alloc (.cells #[.int .i64 day] 3)).alloc (.cells #[.string ⟨#[]⟩] 9)).alloc (.cells #[.string ⟨#[]⟩] 9)).alloc (.cells #[.bool false] 4)) box zero22
  obtain ⟨A, c, hv, hcl, hrd⟩ := hC.look box
  rw [hv] at hlk
  have HRD := Aside0.mk hrd
  have HC := Aside0.mk hC
  clear hC hv hrd hB4
  gi_wp2_with (refine ⟨trivial, ?_⟩; gi_at_call 31; refine (callsIn_wide.2 (back_any _ _ _ _)).mono ?_; rintro e w' ⟨rfl, rfl⟩)
  have bD := Boxed.new w 3 (.int .i64 day)
  have b1 := Boxed.new (w.alloc (.cells #[.int .i64 day] 3)) 9 (.string ⟨#[]⟩)
  have b2 := Boxed.new ((w.alloc (.cells #[.int .i64 day] 3)).alloc (.cells #[.string ⟨#[]⟩] 9)) 9 (.string ⟨#[]⟩)
  have b3 := Boxed.new (((w.alloc (.cells #[.int .i64 day] 3)).alloc (.cells #[.string ⟨#[]⟩] 9)).alloc (.cells #[.string ⟨#[]⟩] 9)) 4 (.bool false)
  have b4 := Boxed.new ((((w.alloc (.cells #[.int .i64 day] 3)).alloc (.cells #[.string ⟨#[]⟩] 9)).alloc (.cells #[.string ⟨#[]⟩] 9)).alloc (.cells #[.bool false] 4)) 22 (.slice A (hget (hands E) box).length c)
  replace bD := ((((bD.alloc (.cells #[.string ⟨#[]⟩] 9)).alloc (.cells #[.string ⟨#[]⟩] 9)).alloc (.cells #[.bool false] 4)).alloc (.cells #[.slice A (hget (hands E) box).length c] 22))
  replace b1 := (((b1.alloc (.cells #[.string ⟨#[]⟩] 9)).alloc (.cells #[.bool false] 4)).alloc (.cells #[.slice A (hget (hands E) box).length c] 22))
  replace b2 := ((b2.alloc (.cells #[.bool false] 4)).alloc (.cells #[.slice A (hget (hands E) box).length c] 22))
  replace b3 := (b3.alloc (.cells #[.slice A (hget (hands E) box).length c] 22))
  simp only [World.size_alloc] at b1 b2 b3 b4
  have hB5 := HB4.out.alloc HB4.out.size (.cells #[.slice A (hget (hands E) box).length c] 22)
  have hs5 : (((((w.alloc (.cells #[.int .i64 day] 3)).alloc (.cells #[.string ⟨#[]⟩] 9)).alloc (.cells #[.string ⟨#[]⟩] 9)).alloc (.cells #[.bool false] 4)).alloc (.cells #[.slice A (hget (hands E) box).length c] 22)).heap.size = w.heap.size + 5 := by simp
  have hrd5 := Kd.C_below HRD.out hB5
  obtain ⟨W5, hW5⟩ : ∃ W5, (((((w.alloc (.cells #[.int .i64 day] 3)).alloc (.cells #[.string ⟨#[]⟩] 9)).alloc (.cells #[.string ⟨#[]⟩] 9)).alloc (.cells #[.bool false] 4)).alloc (.cells #[.slice A (hget (hands E) box).length c] 22)) = W5 := ⟨_, rfl⟩
  rw [hW5] at bD b1 b2 b3 b4 hB5 hs5 hrd5 ⊢
  clear hW5 hlk hc
  have bb : AsBoxes w.heap.size day ⟨#[]⟩ ⟨#[]⟩ false W5 := ⟨bD, b1, b2, b3⟩
  clear bD b1 b2 b3
  generalize hgl : hget (hands E) box = l at *
  have HGL := Aside0.mk hgl
  clear hgl
  refine wpIn_rangeFunc_ownH hro (by omega) (gf := 43) (lb := #[.pointer (some ⟨w.heap.size + 1 + 1 + 1 + 1, 0, none⟩)]) rfl trivial (enters_of Try.func43 (by kernel_rfl) rfl)
    (back_stops Fence.wide 2 trivial hro (by omega) (w.heap.size + 1 + 1 + 1 + 1) A c l W5 hrd5 (by omega) b4.cell) belowK_t (belowK_b (Nat.le_refl _)) (Below.refl _ _) (fun _ => rfl)
    (fun pre W => (((∀ q ∈ pre, day < q.2.f4) ∧ W5.heap.size ≤ W.heap.size) ∧ AsBoxes w.heap.size day ⟨#[]⟩ ⟨#[]⟩ false W) ∧ Below w.heap.size w W)
    (fun cd pre W => (∃ ini last, (cd = .ret ∧ pre = ini ++ [last] ∧ (∀ q ∈ ini, day < q.2.f4) ∧ last.2.f4 ≤ day) ∧ AsBoxes w.heap.size day last.2.f2 last.2.f3 true W) ∧ Below w.heap.size w W)
    (OwnFrom.and (OwnFrom.and (OwnFrom.and (ownFrom_pure _ _) (fun _ _ _ _ hs hg _ => Nat.le_trans hs hg.size)) (asBoxes_own _ _ _ (fun _ => ⟨#[]⟩) (fun _ => ⟨#[]⟩) (fun _ => false))) (ownFrom_below (Nat.le_refl _) (by omega)))
    (fun cd => OwnFrom.and (fun pre W W' row hs hg hr => by obtain ⟨ini, last, h1, h2⟩ := hs; exact ⟨ini, last, h1, asBoxes_own W5.heap.size w.heap.size day (fun _ : Unit => last.2.f2) (fun _ => last.2.f3) (fun _ => true) () W W' row h2 hg hr⟩) (ownFrom_below (Nat.le_refl _) (by omega)))
    ⟨⟨⟨by simp, Nat.le_refl _⟩, bb⟩, hB5⟩
    (fun x a' W => ∃ Bx, W5.heap.size ≤ Bx ∧ W.heap[Bx]? = some (handO x.2) ∧ a' = { tmps := #[.pointer (some ⟨p, 0, none⟩), .string box, .int .i64 day, undef, undef, .pointer (some ⟨w.heap.size, 0, none⟩), .pointer (some ⟨w.heap.size + 1, 0, none⟩), .pointer (some ⟨w.heap.size + 1 + 1, 0, none⟩), .pointer (some ⟨w.heap.size + 1 + 1 + 1, 0, none⟩), undef, .pointer (some ⟨Bx, 0, none⟩),
        .pointer (some ⟨p, 0, none⟩), .pointer (some ⟨p, 0, none⟩), .pointer (some ⟨p, 0, none⟩), .map (some r), .string box, .slice A l.length c, .func (.func 43) #[] #[.pointer (some ⟨w.heap.size + 1 + 1 + 1 + 1, 0, none⟩)], .int .i64 x.1, handV x.2, undef, undef, undef, undef, undef, undef, undef, undef], defers := [] })
    (fun x a' => fun s W W' row hs hg hr => by obtain ⟨Bx, h1, h2, h3⟩ := hs; exact ⟨Bx, h1, lies_own W5.heap.size Bx (fun _ : Unit => handO x.2) (fun _ => rfl) () W W' row h2 hg hr, h3⟩) ?assign ?body ?done ?stop
  case assign =>
    intro lp pre x W K hI hK
    obtain ⟨⟨⟨hI1, hI0⟩, hI2⟩, hI3⟩ := hI
    have HK := Aside0.mk hK
    have HI := Aside0.mk (And.intro hI1 (And.intro hI2 hI3))
    clear hK hI1 hI2 hI3
    simp only [encB]
    gi_wp2
    exact HK.out _ _ ((KeepsOthers.alloc _ _).from _) ((Below.refl _ W).alloc hI0 _) ⟨⟨⟨HI.out.1, by simp; omega⟩, HI.out.2.1.alloc _⟩, HI.out.2.2.alloc HI.out.2.2.size _⟩ ⟨W.heap.size, hI0, heap_alloc_new W _, rfl⟩
  case body =>
    rintro lp pre x a' W hl ⟨rr, hrr⟩ ⟨⟨⟨hp, hsW⟩, hbx⟩, hB⟩ ⟨Bx, hBx, hbX, rfl⟩ hlt
    obtain ⟨k0, k1, k2, k3, k4⟩ := hand_cells hbX
    have kd := hbx.d.cell
    have ka := hbx.r1.cell
    have kb := hbx.r2.cell
    have kc := hbx.r3.cell
    have fa := hbx.r1.frozen
    have fb := hbx.r2.frozen
    have fc := hbx.r3.frozen
    have HP := Aside0.mk hp
    have HX := Aside0.mk hbx
    have HB := Aside0.mk hB
    clear hp hbx hB hrr hbX
    gi_wp2
    · have n1 : ¬ w.heap.size + 1 = Bx := by omega
      have n2 : ¬ w.heap.size + 1 + 1 = Bx := by omega
      have n3 : ¬ w.heap.size + 1 + 1 + 1 = Bx := by omega
      have n4 : ¬ Bx = w.heap.size + 1 := by omega
      have n5 : ¬ Bx = w.heap.size + 1 + 1 := by omega
      have n6 : ¬ Bx = w.heap.size + 1 + 1 + 1 := by omega
      have hmix : Try.prog.follows Departure.mixedOrders = true := by kernel_rfl
      gi_region_o
      all_goals gi_wp2
      all_goals
        refine ⟨(KeepsOthers.trans (KeepsOthers.trans (KeepsOthers.trans (KeepsOthers.setCell _ _ _) (KeepsOthers.setCell _ _ _)) (KeepsOthers.setCell _ _ _)) (KeepsOthers.drew _)).from _, ⟨pre, x, ⟨rfl, rfl, HP.out, by assumption⟩, ?_⟩, ?_⟩
        · repeat (first | exact HX.out | refine AsBoxes.drew ?_ | refine AsBoxes.s1 _ ?_ | refine AsBoxes.s2 _ ?_ | refine AsBoxes.s3 _ ?_)
        · refine below_drew (Below.setCell (Below.setCell (Below.setCell HB.out ?_ _) ?_ _) ?_ _) <;> (simp only []; omega)
    · have hx : day < x.2.f4 := by assumption
      refine ⟨KeepsFrom.refl _ _, Below.refl _ _, ⟨⟨fun q hq => ?_, hsW⟩, HX.out⟩, HB.out⟩
      rcases List.mem_append.1 hq with hq | hq
      · exact HP.out q hq
      · rw [List.mem_singleton.1 hq]; exact hx
  case done =>
    rintro D ys W hD rfl ⟨⟨⟨hp, hsW⟩, hbx⟩, hB⟩ hK
    have ka := hbx.r1.cell
    have kb := hbx.r2.cell
    have kc := hbx.r3.cell
    have fa := hbx.r1.frozen
    have fb := hbx.r2.frozen
    have fc := hbx.r3.frozen
    have HX := Aside0.mk hbx
    have HB := Aside0.mk hB
    have HA := Aside0.mk (asP_none hp)
    have HK := Aside0.mk hK
    clear hbx hB hp hK
    gi_wp2
    have hX2 : AsBoxes w.heap.size day ⟨#[]⟩ ⟨#[]⟩ false (((W.setCell ⟨w.heap.size + 1, 0, none⟩ (.string ⟨#[]⟩)).setCell ⟨w.heap.size + 1 + 1, 0, none⟩ (.string ⟨#[]⟩)).setCell ⟨w.heap.size + 1 + 1 + 1, 0, none⟩ (.bool false)) := ((HX.out.s1 ⟨#[]⟩).s2 ⟨#[]⟩).s3 false
    have hK' := (KeepsOthers.trans (KeepsOthers.trans (KeepsOthers.setCell W ⟨w.heap.size + 1, 0, none⟩ (.string ⟨#[]⟩)) (KeepsOthers.setCell _ ⟨w.heap.size + 1 + 1, 0, none⟩ (.string ⟨#[]⟩))) (KeepsOthers.setCell _ ⟨w.heap.size + 1 + 1 + 1, 0, none⟩ (.bool false))).same D _ HK.out rfl
    have hB2 : Below w.heap.size w (((W.setCell ⟨w.heap.size + 1, 0, none⟩ (.string ⟨#[]⟩)).setCell ⟨w.heap.size + 1 + 1, 0, none⟩ (.string ⟨#[]⟩)).setCell ⟨w.heap.size + 1 + 1 + 1, 0, none⟩ (.bool false)) := by
      refine Below.setCell (Below.setCell (Below.setCell HB.out ?_ _) ?_ _) ?_ _ <;> (simp only []; omega)
    refine ⟨by simp, .inl ⟨_, _, rfl, run_takeDeferred hK', ?_⟩⟩
    have c1 := cell_kept hX2.r1.cell (grownBy_putObj' _ D (.deferred none)) (fun r e => by cases e; exact ⟨_, hK', rfl⟩)
    have c2 := cell_kept hX2.r2.cell (grownBy_putObj' _ D (.deferred none)) (fun r e => by cases e; exact ⟨_, hK', rfl⟩)
    have c3 := cell_kept hX2.r3.cell (grownBy_putObj' _ D (.deferred none)) (fun r e => by cases e; exact ⟨_, hK', rfl⟩)
    refine ⟨.tuple #[.string ⟨#[]⟩, .string ⟨#[]⟩, .bool false], by simp [results, Try.f13, go_sem, c1, c2, c3], by rw [HGL.out, HA.out], hB2.trans (belowK_b (w := w) (Nat.le_refl _) _ D _ _ (by omega) hK' rfl rfl)⟩
  case stop =>
    rintro D cd pre W hD ⟨k, hk, rfl⟩ ⟨⟨ini, last, ⟨rfl, he, hi, hl⟩, hbx⟩, hB⟩ hK
    have HA := Aside0.mk (asP_some hk he hi hl)
    have HB := Aside0.mk hB
    clear hi he hB
    gi_wp2
    refine ⟨by simp, .inl ⟨_, _, rfl, run_takeDeferred hK, ?_⟩⟩
    have c1 := cell_kept hbx.r1.cell (grownBy_putObj' _ D (.deferred none)) (fun r e => by cases e; exact ⟨_, hK, rfl⟩)
    have c2 := cell_kept hbx.r2.cell (grownBy_putObj' _ D (.deferred none)) (fun r e => by cases e; exact ⟨_, hK, rfl⟩)
    have c3 := cell_kept hbx.r3.cell (grownBy_putObj' _ D (.deferred none)) (fun r e => by cases e; exact ⟨_, hK, rfl⟩)
    refine ⟨.tuple #[.string last.2.f2, .string last.2.f3, .bool true], by simp [results, Try.f13, go_sem, c1, c2, c3], by rw [HGL.out, HA.out], HB.out.trans (belowK_b (w := w) (Nat.le_refl _) _ D _ _ (by omega) hK rfl rfl)⟩
end Go.Proofs.Ytonnhdffjbpgnaa
