/- The hand-overs of a box, the last first: the library's iterator over a slice, backward. Conditions: none. -/
import Derived.RangeFuncNested
import Derived.RangeFuncBound
import Derived.RangeFuncCalls
import Derived.RangeFuncLeaves
import Derived.Shelf.Abstract
import Derived.Shelf.RegionOpen
import Derived.OwnWalkIn
import Derived.TacticsInMore
import Derived.LoopNIn
import Derived.LoopIn
import Derived.Test.YtonnhdffjbpgnaaCheck
set_option linter.unusedVariables false
set_option linter.unusedSimpArgs false
set_option linter.unusedSectionVars false
namespace Go.Proofs.Ytonnhdffjbpgnaa
open Go.RowKit Go.Shelf Go.Proofs.YtonnhdffjbpgnaaW.PrintWords Go.Proofs.YtonnhdffjbpgnaaW.PrintLast Go.Proofs.YtonnhdffjbpgnaaW.PrintMore
open Q

attribute [local go_sem] Oper.semAt_some

/-- WHAT HAS COME WHEN k ROUNDS ARE OVER: f 0, .., f (k - 1). -/
def upto {α : Type} (f : Nat → α) (k : Nat) : List α := (List.range k).map f
theorem upto_succ {α : Type} (f : Nat → α) (k : Nat) : upto f (k + 1) = upto f k ++ [f k] := by simp [upto, List.range_succ]
theorem upto_length {α : Type} (f : Nat → α) (k : Nat) : (upto f k).length = k := by simp [upto]

/-- What comes in round j: the place and the hand-over, from the last on. -/
def backAt (l : List S41) (j : Nat) : Int × S41 := ((l.length : Int) - 1 - j, rd_T41 l ((l.length : Int) - 1 - j))
def encB (x : Int × S41) : Array Value := #[.int .i64 x.1, handV x.2]

set_option maxRecDepth 100000 in
set_option maxHeartbeats 2000000 in
theorem back1_in (F : Fence) (n : Nat) (h43 : F.fn 43) (hro : F.round = none) (hn : 1 ≤ n) (lp Bs n₀ : Nat) (A : Option Addr) (c : Nat) (l : List S41) (W0 : World) (hr : Kd.C k41 W0 A l.length l) (hW0 : W0.heap.size = n₀)
    (J Jx : List (Int × S41) → World → Prop)
    (hY : ∀ pre x W, J pre W → pre.length < l.length → YieldAt F (n - 1) Try.prog lp (encB x) W fun e W' =>
      (e = .returned (.bool true) ∧ J (pre ++ [x]) W' ∧ Below n₀ W W') ∨ (e = .returned (.bool false) ∧ Jx (pre ++ [x]) W'))
    (W : World) (hW : Below n₀ W0 W) (hBs : W.cell? ⟨Bs, 0, none⟩ = some (.slice A l.length c)) (hBn : Bs < n₀) (h0 : J [] W) :
    CallsIn F n Try.prog 43 #[.func (.yield lp) #[] #[], .pointer (some ⟨Bs, 0, none⟩)] W fun e W' => (∃ v, e = .returned v) ∧
      ((∃ ys, ys = upto (backAt l) l.length ∧ J ys W') ∨ (∃ pre, (∃ k, k ≤ l.length ∧ pre = upto (backAt l) k) ∧ Jx pre W')) := by
  have HR := Aside0.mk hr
  have hlen : l.length ≤ 9223372036854775807 := hr.2.1
  have HW := Aside0.mk hW
  have HW0 := Aside0.mk hW0
  have HB0 := Aside0.mk hBs
  clear hr hW hW0
  refine callsIn_of_wp Try.func43 rfl h43 ?_ hro
  simp only [Try.ntmps43, List.size_toArray, List.length_cons, List.length_nil, Nat.reduceAdd, Nat.reduceSub, Array.replicate_succ, Array.replicate_zero, List.push_toArray, List.append_toArray, List.nil_append, List.cons_append]
  gi_wp2
  clear hBs
  gi_loopw [3] (fun i wr => ∃ m : Nat, m ≤ l.length ∧ Aside0 (i = .int .i64 ((m : Int) - 1)) ∧ Aside0 (J (upto (backAt l) (l.length - m)) wr) ∧ Aside0 (Below n₀ W wr))
    (fun i _ => (intOf i + 1).toNat)
  case atStart => exact ⟨l.length, Nat.le_refl _, ⟨rfl⟩, ⟨by rw [Nat.sub_self]; exact h0⟩, ⟨Below.refl _ _⟩⟩
  case round =>
    obtain ⟨m, hm, hi, hJs, hnx⟩ := hrel
    have hBs := (hnx.out.cell (p := ⟨Bs, 0, none⟩) hBn).trans HB0.out
    cases m with
    | succ m =>
      have hi2 : u3 = .int .i64 (m : Int) := by rw [hi.out]; congr 1; omega
      subst hi2
      clear hi
      have hbk : backAt l (l.length - (m + 1)) = ((m : Int), rd_T41 l (m : Int)) := by
        unfold backAt
        have : (l.length : Int) - 1 - ((l.length - (m + 1) : Nat) : Int) = (m : Int) := by omega
        rw [this]
      obtain ⟨fn, tmps, assign, body, hy, hR⟩ := hY _ (backAt l (l.length - (m + 1))) wr hJs.out (by rw [upto_length]; omega)
      rw [hbk] at hy
      obtain ⟨ad, rfl, hx0, hx1, hx2, hx3, hx4⟩ := at_T41 HR.out (m : Int) (by omega) (by omega)
      have hb : Below n₀ W0 wr := HW.out.trans hnx.out
      replace hx0 := (hb.cell (by rw [← HW0.out]; exact World.block_lt_of_cell? W0 _ hx0)).trans hx0
      replace hx1 := (hb.cell (by rw [← HW0.out]; exact World.block_lt_of_cell? W0 _ hx1)).trans hx1
      replace hx2 := (hb.cell (by rw [← HW0.out]; exact World.block_lt_of_cell? W0 _ hx2)).trans hx2
      replace hx3 := (hb.cell (by rw [← HW0.out]; exact World.block_lt_of_cell? W0 _ hx3)).trans hx3
      replace hx4 := (hb.cell (by rw [← HW0.out]; exact World.block_lt_of_cell? W0 _ hx4)).trans hx4
      obtain ⟨h, hh⟩ : ∃ h, h = rd_T41 l (m : Int) := ⟨_, rfl⟩
      rw [← hh, Int.toNat_natCast] at hx0 hx1 hx2 hx3 hx4
      rw [← hh] at hy
      dsimp only [encB] at hy
      have hJn : upto (backAt l) (l.length - (m + 1)) ++ [backAt l (l.length - (m + 1))] = upto (backAt l) (l.length - m) := by
        rw [← upto_succ]
        congr 1
        omega
      rw [hJn] at hR
      have HR1 := Aside0.mk hR
      clear hb hbk hh hJn hR
      gi_wp2
      refine HR1.out.mono ?_
      rintro e W3 (⟨rfl, hJ3, hk3⟩ | ⟨rfl, hJx3⟩)
      · -- THE ROUND GOES ON
        have HJ3 := Aside0.mk hJ3
        have HK3 := Aside0.mk hk3
        clear hJ3 hk3 HR1 hy
        gi_wp2
        go_roundw
        case rel => exact ⟨m, by omega, ⟨by go_num⟩, HJ3, ⟨hnx.out.trans HK3.out⟩⟩
        case measure => simp [intOf]
      · have HJ3 := Aside0.mk hJx3
        clear hJx3 HR1 hy
        gi_wp2
        refine bodyPost_ret (results_none rfl _ _ _) rfl ?_
        exact ⟨⟨_, rfl⟩, .inr ⟨_, ⟨l.length - m, by omega, rfl⟩, HJ3.out⟩⟩
    | zero =>
      have hi2 : u3 = .int .i64 (-1) := by rw [hi.out]; rfl
      subst hi2
      clear hi
      have HJ0 := Aside0.mk hJs.out
      gi_wp2
      go_end0
      exact ⟨⟨_, rfl⟩, .inl ⟨_, rfl, HJ0.out⟩⟩

theorem back_stops (F : Fence) (n : Nat) (h43 : F.fn 43) (hro : F.round = none) (hn : 1 ≤ n) (Bs : Nat) (A : Option Addr) (c : Nat) (l : List S41) (w : World) (hr : Kd.C k41 w A l.length l) (hB : Bs < w.heap.size)
    (hc : w.cell? ⟨Bs, 0, none⟩ = some (.slice A l.length c)) :
    SeqStopsK F n Try.prog 43 #[.pointer (some ⟨Bs, 0, none⟩)] encB (Below w.heap.size) (fun ys => ys = upto (backAt l) l.length) (fun pre => ∃ k, k ≤ l.length ∧ pre = upto (backAt l) k) l.length w := fun lp J Jx W hW _ _ hY h0 =>
  back1_in F n h43 hro hn lp Bs w.heap.size A c l w hr rfl J Jx hY W hW ((hW.cell (p := ⟨Bs, 0, none⟩) hB).trans hc) hB h0

theorem back_any (A : Option Addr) (len c : Nat) (w : World) :
    Calls Try.prog 31 #[.slice A len c] w fun e w' => e = .returned (.func (.func 43) #[] #[.pointer (some ⟨w.heap.size, 0, none⟩)]) ∧ w.alloc (.cells #[.slice A len c] 22) = w' := by
  go_enter Try.func31, Try.ntmps31
  go_wp2
  go_ret
  exact ⟨rfl, rfl⟩

/-- Who has a box, and where, as of a day. -/
def asP (l : List S41) (day : Int) : ByteArray × ByteArray × Bool :=
  match l.reverse.find? fun h => decide (h.f4 ≤ day) with
  | some h => (h.f2, h.f3, true)
  | none => (⟨#[]⟩, ⟨#[]⟩, false)

theorem upto_back (l : List S41) : (upto (backAt l) l.length).map (·.2) = l.reverse := by
  apply List.ext_getElem?
  intro j
  simp only [upto, List.map_map, List.getElem?_map]
  by_cases hj : j < l.length
  · rw [List.getElem?_range hj, List.getElem?_reverse hj]
    have e : ((l.length : Int) - 1 - (j : Int)).toNat = l.length - 1 - j := by omega
    simp only [Option.map_some, Function.comp_def, backAt, rd_T41, e, List.getD_eq_getElem?_getD, List.getElem?_eq_getElem (show l.length - 1 - j < l.length by omega), Option.getD_some]
  · rw [List.getElem?_eq_none (by simp; omega), List.getElem?_eq_none (by simp; omega)]
    rfl

/-- Nothing of all that came is of the day: so nobody has it. -/
theorem asP_none {l : List S41} {day : Int} (h : ∀ q ∈ upto (backAt l) l.length, day < q.2.f4) : asP l day = (⟨#[]⟩, ⟨#[]⟩, false) := by
  unfold asP
  have : l.reverse.find? (fun h => decide (h.f4 ≤ day)) = none := by
    rw [List.find?_eq_none]
    intro x hx
    rw [← upto_back] at hx
    obtain ⟨q, hq, rfl⟩ := List.mem_map.1 hx
    have := h q hq
    simp
    omega
  rw [this]
/-- The first that came of the day: it tells. -/
theorem asP_some {l : List S41} {day : Int} {k : Nat} (hk : k ≤ l.length) {ini : List (Int × S41)} {last : Int × S41} (he : upto (backAt l) k = ini ++ [last]) (hi : ∀ q ∈ ini, day < q.2.f4) (hl : last.2.f4 ≤ day) : asP l day = (last.2.f2, last.2.f3, true) := by
  unfold asP
  have hsplit : ∃ rest, upto (backAt l) l.length = upto (backAt l) k ++ rest := by
    refine ⟨(List.range (l.length - k)).map fun j => backAt l (k + j), ?_⟩
    have : l.length = k + (l.length - k) := by omega
    unfold upto
    conv => lhs; rw [this, List.range_add]
    simp [List.map_append, List.map_map, Function.comp_def]
  obtain ⟨rest, hs⟩ := hsplit
  have : l.reverse.find? (fun h => decide (h.f4 ≤ day)) = some last.2 := by
    rw [List.find?_eq_some_iff_append]
    refine ⟨by simpa using hl, ini.map (·.2), rest.map (·.2), ?_, ?_⟩
    · rw [← upto_back, hs, he]
      simp
    · intro a ha
      obtain ⟨q, hq, rfl⟩ := List.mem_map.1 ha
      have := hi q hq
      simp
      omega
  rw [this]
end Go.Proofs.Ytonnhdffjbpgnaa
