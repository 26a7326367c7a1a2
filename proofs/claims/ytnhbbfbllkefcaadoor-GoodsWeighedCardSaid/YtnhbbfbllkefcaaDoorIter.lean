/- The library's contracts on slices.Sorted(maps.Keys(m)) at this program's numbers, written by the kit's tools (lay-iter.mjs, lay-plain.mjs). Conditions: as each theorem says. -/
import Derived.Shelf.SlIter.Nil
import Derived.Shelf.SortM.Plain
import Derived.Shelf.SortM.SortNone
import Derived.Ground.GgzProg
import Derived.Ground.SlgmProg
import Derived.Test.YtnhbbfbllkefcaaDoorProg
namespace Go.Proofs
open Go.RowKit Go.Maps Go.Sort Go.Shelf
def Tryd.keys29_ren : Go.Shelf.Ren := ⟨fun | 7 => 29 | 10 => 42 | n => n, fun | 23 => 60 | 26 => 9 | 3 => 3 | 28 => 65 | 0 => 0 | 27 => 64 | 33 => 67 | 4 => 4 | n => n, fun | n => n⟩
theorem Tryd.keys29 : Go.Proofs.SlLaysZ.n7 Tryd.prog Tryd.keys29_ren := {
  mixed := by kernel_rfl
  f7 := ⟨Tryd.f29.name, by decide, Tryd.func29.trans (congrArg some (by kernel_rfl))⟩
  f10 := ⟨Tryd.f42.name, by decide, Tryd.func42.trans (congrArg some (by kernel_rfl))⟩
  t0 := Tryd.underlying0
  a0 := Tryd.isAgg0
  z0 := Tryd.sizeOf0
  v0 := Tryd.zeroValue0
  t4 := Tryd.underlying4
  a4 := Tryd.isAgg4
  z4 := Tryd.sizeOf4
  v4 := Tryd.zeroValue4
  t23 := Tryd.underlying60
  a23 := Tryd.isAgg60
  z23 := Tryd.sizeOf60
  v23 := Tryd.zeroValue60
  t26 := Tryd.underlying9
  a26 := Tryd.isAgg9
  z26 := Tryd.sizeOf9
  v26 := Tryd.zeroValue9
  t27 := Tryd.underlying64
  a27 := Tryd.isAgg64
  z27 := Tryd.sizeOf64
  v27 := Tryd.zeroValue64
  t28 := Tryd.underlying65
  a28 := Tryd.isAgg65
  z28 := Tryd.sizeOf65
  v28 := Tryd.zeroValue65
  t33 := Tryd.underlying67
  a33 := Tryd.isAgg67
  z33 := Tryd.sizeOf67
  v33 := Tryd.zeroValue67 }
def Tryd.sorted28_ren : Go.Shelf.Ren := ⟨fun | 6 => 28 | 8 => 40 | 9 => 41 | 11 => 56 | 13 => 58 | 12 => 57 | 23 => 71 | 24 => 72 | 14 => 62 | 15 => 63 | 16 => 64 | 17 => 65 | 18 => 66 | 19 => 67 | 20 => 68 | 21 => 69 | 22 => 70 | 25 => 82 | 26 => 83 | 27 => 84 | 28 => 85 | 29 => 86 | 30 => 87 | 31 => 92 | n => n, fun | 26 => 9 | 28 => 65 | 24 => 62 | 0 => 0 | 3 => 3 | 37 => 87 | 48 => 101 | 50 => 103 | 4 => 4 | 40 => 93 | 39 => 92 | 45 => 98 | 5 => 5 | 9 => 9 | 51 => 109 | 55 => 113 | 57 => 117 | 58 => 118 | 33 => 67 | n => n, fun | n => n⟩
theorem Tryd.sorted28 : Go.Proofs.SlLaysZ.n6 Tryd.prog Tryd.sorted28_ren := {
  mixed := by kernel_rfl
  f6 := ⟨Tryd.f28.name, by decide, Tryd.func28.trans (congrArg some (by kernel_rfl))⟩
  f8 := ⟨Tryd.f40.name, by decide, Tryd.func40.trans (congrArg some (by kernel_rfl))⟩
  f11 := ⟨Tryd.f56.name, by decide, Tryd.func56.trans (congrArg some (by kernel_rfl))⟩
  t0 := Tryd.underlying0
  a0 := Tryd.isAgg0
  z0 := Tryd.sizeOf0
  v0 := Tryd.zeroValue0
  t24 := Tryd.underlying62
  a24 := Tryd.isAgg62
  z24 := Tryd.sizeOf62
  v24 := Tryd.zeroValue62
  t26 := Tryd.underlying9
  a26 := Tryd.isAgg9
  z26 := Tryd.sizeOf9
  v26 := Tryd.zeroValue9
  t28 := Tryd.underlying65
  a28 := Tryd.isAgg65
  z28 := Tryd.sizeOf65
  v28 := Tryd.zeroValue65
  i26 := by kernel_rfl }
def Tryd.sort41_ren : Go.Shelf.Ren := ⟨fun | 6 => 41 | 8 => 58 | 9 => 57 | 19 => 71 | 20 => 72 | 21 => 62 | 22 => 63 | 23 => 64 | 24 => 65 | 25 => 66 | 26 => 67 | 27 => 68 | 28 => 69 | 29 => 70 | 36 => 82 | 31 => 83 | 32 => 84 | 37 => 85 | 38 => 86 | 39 => 87 | 41 => 92 | n => n, fun | 27 => 62 | 29 => 9 | 3 => 3 | 32 => 87 | 26 => 62 | 0 => 0 | 44 => 101 | 46 => 103 | 4 => 4 | 36 => 93 | 35 => 92 | 41 => 98 | 5 => 5 | 9 => 9 | 53 => 109 | 57 => 113 | 63 => 117 | 64 => 118 | n => n, fun | n => n⟩
theorem Tryd.sort41 : Go.Proofs.SlLaysM.n6 Tryd.prog Tryd.sort41_ren := {
  mixed := by kernel_rfl
  f6 := ⟨Tryd.f41.name, by decide, Tryd.func41.trans (congrArg some (by kernel_rfl))⟩
  f8 := Tryd.func58.trans (congrArg some (by kernel_rfl))
  f9 := ⟨Tryd.f57.name, by decide, Tryd.func57.trans (congrArg some (by kernel_rfl))⟩
  f19 := Tryd.func71.trans (congrArg some (by kernel_rfl))
  f20 := Tryd.func72.trans (congrArg some (by kernel_rfl))
  f21 := ⟨Tryd.f62.name, by decide, Tryd.func62.trans (congrArg some (by kernel_rfl))⟩
  f22 := ⟨Tryd.f63.name, by decide, Tryd.func63.trans (congrArg some (by kernel_rfl))⟩
  f23 := ⟨Tryd.f64.name, by decide, Tryd.func64.trans (congrArg some (by kernel_rfl))⟩
  f24 := ⟨Tryd.f65.name, by decide, Tryd.func65.trans (congrArg some (by kernel_rfl))⟩
  f25 := ⟨Tryd.f66.name, by decide, Tryd.func66.trans (congrArg some (by kernel_rfl))⟩
  f26 := ⟨Tryd.f67.name, by decide, Tryd.func67.trans (congrArg some (by kernel_rfl))⟩
  f27 := ⟨Tryd.f68.name, by decide, Tryd.func68.trans (congrArg some (by kernel_rfl))⟩
  f28 := ⟨Tryd.f69.name, by decide, Tryd.func69.trans (congrArg some (by kernel_rfl))⟩
  f29 := ⟨Tryd.f70.name, by decide, Tryd.func70.trans (congrArg some (by kernel_rfl))⟩
  f31 := Tryd.func83.trans (congrArg some (by kernel_rfl))
  f32 := Tryd.func84.trans (congrArg some (by kernel_rfl))
  f36 := ⟨Tryd.f82.name, by decide, Tryd.func82.trans (congrArg some (by kernel_rfl))⟩
  f37 := ⟨Tryd.f85.name, by decide, Tryd.func85.trans (congrArg some (by kernel_rfl))⟩
  f38 := ⟨Tryd.f86.name, by decide, Tryd.func86.trans (congrArg some (by kernel_rfl))⟩
  f39 := ⟨Tryd.f87.name, by decide, Tryd.func87.trans (congrArg some (by kernel_rfl))⟩
  f41 := ⟨Tryd.f92.name, by decide, Tryd.func92.trans (congrArg some (by kernel_rfl))⟩
  t0 := Tryd.underlying0
  a0 := Tryd.isAgg0
  z0 := Tryd.sizeOf0
  v0 := Tryd.zeroValue0
  t3 := Tryd.underlying3
  a3 := Tryd.isAgg3
  z3 := Tryd.sizeOf3
  v3 := Tryd.zeroValue3
  t4 := Tryd.underlying4
  a4 := Tryd.isAgg4
  z4 := Tryd.sizeOf4
  v4 := Tryd.zeroValue4
  t5 := Tryd.underlying5
  a5 := Tryd.isAgg5
  z5 := Tryd.sizeOf5
  v5 := Tryd.zeroValue5
  t9 := Tryd.underlying9
  a9 := Tryd.isAgg9
  z9 := Tryd.sizeOf9
  v9 := Tryd.zeroValue9
  t26 := Tryd.underlying62
  a26 := Tryd.isAgg62
  z26 := Tryd.sizeOf62
  v26 := Tryd.zeroValue62
  t27 := Tryd.underlying62
  a27 := Tryd.isAgg62
  z27 := Tryd.sizeOf62
  v27 := Tryd.zeroValue62
  t29 := Tryd.underlying9
  a29 := Tryd.isAgg9
  z29 := Tryd.sizeOf9
  v29 := Tryd.zeroValue9
  t32 := Tryd.underlying87
  a32 := Tryd.isAgg87
  z32 := Tryd.sizeOf87
  v32 := Tryd.zeroValue87
  t35 := Tryd.underlying92
  a35 := Tryd.isAgg92
  z35 := Tryd.sizeOf92
  v35 := Tryd.zeroValue92
  t36 := Tryd.underlying93
  a36 := Tryd.isAgg93
  z36 := Tryd.sizeOf93
  v36 := Tryd.zeroValue93
  t41 := Tryd.underlying98
  a41 := Tryd.isAgg98
  z41 := Tryd.sizeOf98
  v41 := Tryd.zeroValue98
  t44 := Tryd.underlying101
  a44 := Tryd.isAgg101
  z44 := Tryd.sizeOf101
  v44 := Tryd.zeroValue101
  t46 := Tryd.underlying103
  a46 := Tryd.isAgg103
  z46 := Tryd.sizeOf103
  v46 := Tryd.zeroValue103
  t53 := Tryd.underlying109
  a53 := Tryd.isAgg109
  z53 := Tryd.sizeOf109
  v53 := Tryd.zeroValue109
  t57 := Tryd.underlying113
  a57 := Tryd.isAgg113
  z57 := Tryd.sizeOf113
  v57 := Tryd.zeroValue113
  t63 := Tryd.underlying117
  a63 := Tryd.isAgg117
  z63 := Tryd.sizeOf117
  v63 := Tryd.zeroValue117
  t64 := Tryd.underlying118
  a64 := Tryd.isAgg118
  z64 := Tryd.sizeOf118
  v64 := Tryd.zeroValue118 }

/-- slices.Sort's two contracts at this dump, at the fence that asks nothing. -/
theorem Tryd.sorts28 (m : Nat) : AnyZ.SortsIn Tryd.prog Tryd.sorted28_ren Fence.wide m :=
  ⟨fun blk off cap ss W hH hblk hsz => callsIn_wide.2 (AnyM.slices_Sort_string Tryd.sort41 blk off cap ss W hH hblk hsz),
   fun p cap W => callsIn_wide.2 (AnyM.slices_Sort_string_none Tryd.sort41 p cap W)⟩

/-- **maps.Keys[map[string]int,string,int], at whatever map, the nil one too:** a function value over ONE NEW BLOCK, which holds the map. -/
theorem Tryd.maps_Keys_29 (mb : Option Nat) (W : World) : CallsIn Fence.wide 5 Tryd.prog 29 #[.map mb] W fun e w' => e = .returned (.func (.func 42) #[] #[.pointer (some ⟨W.heap.size, 0, none⟩)]) ∧ w' = W.alloc (.cells #[.map mb] 60) :=
  AnyZ.keys_in Tryd.keys29 Fence.wide 5 trivial rfl mb W

set_option maxHeartbeats 1000000 in
/-- **slices.Sorted[string] AT WHAT maps.Keys[map[string]int,string,int] HANDED BACK FOR A MAP THAT IS NOT nil** ('w': the world AHEAD of maps.Keys' call): A NEW SLICE THAT HOLDS THE MAP's KEYS, SORTED; nil just where it has none; nothing that lay before has turned. -/
theorem Tryd.slices_Sorted_keys_28_29 {H : Type} (b nn : Nat) (D0 : DataW H) (R : Value → Option (DataW H × List MemPlace)) (w : World) (hown : w.ownsMap Tryd.prog 9 R b nn D0) (hmax : Maps.size D0 ≤ maxLen) (hbytes : Maps.size D0 * 16 ≤ 140737488355328) :
    CallsIn Fence.wide 5 Tryd.prog 28 #[.func (.func 42) #[] #[.pointer (some ⟨w.heap.size, 0, none⟩)]] (w.alloc (.cells #[.map (some b)] 60)) fun e w' => ∃ (v : Value) (ss : List (List UInt8)), e = .returned v ∧ ss.Perm (strKeys D0) ∧
      w'.ownsRow (w.alloc (.cells #[.map (some b)] 60)).heap.size 9 1 v ss.length ((ss.mergeSort (fun x y => decide (x ≤ y))).map encStr) ∧ (v = .slice none 0 0 ↔ ss = []) ∧ Below (w.alloc (.cells #[.map (some b)] 60)).heap.size (w.alloc (.cells #[.map (some b)] 60)) w' := by
  have hbl := hown.lt
  have hseq : SeqGives Fence.wide 2 Tryd.prog 42 #[.pointer (some ⟨w.heap.size, 0, none⟩)] encStr (fun ss => ss.Perm (strKeys D0)) (Maps.size D0) (w.alloc (.cells #[.map (some b)] 60)) :=
    AnyZ.keys_gives (ρ := Tryd.keys29_ren) { Tryd.keys29 with } Fence.wide _ trivial rfl (by omega) w.heap.size b nn D0 _ (by simp) (by simp) (by
      obtain ⟨es, clock, hb, Ft, hs, hD⟩ := hown
      exact ⟨es, clock, (Below.heap_alloc _ _ b hbl).trans hb, Ft, hs, hD⟩)
  exact AnyZ.sorted_in Tryd.sorted28 Fence.wide 5 trivial trivial trivial trivial rfl (by omega) (Tryd.sorts28 _) (enters_of Tryd.func41 (by kernel_rfl) rfl) 42 #[.pointer (some ⟨w.heap.size, 0, none⟩)] trivial (enters_of Tryd.func42 (by kernel_rfl) rfl) _ _ hmax hbytes _ hseq

set_option maxHeartbeats 1000000 in
/-- **.. AND FOR THE nil MAP: nil.** -/
theorem Tryd.slices_Sorted_keys_nil_28_29 (w : World) :
    CallsIn Fence.wide 5 Tryd.prog 28 #[.func (.func 42) #[] #[.pointer (some ⟨w.heap.size, 0, none⟩)]] (w.alloc (.cells #[.map none] 60)) fun e w' => ∃ (v : Value) (ss : List (List UInt8)), e = .returned v ∧ ss = [] ∧
      w'.ownsRow (w.alloc (.cells #[.map none] 60)).heap.size 9 1 v ss.length ((ss.mergeSort (fun x y => decide (x ≤ y))).map encStr) ∧ (v = .slice none 0 0 ↔ ss = []) ∧ Below (w.alloc (.cells #[.map none] 60)).heap.size (w.alloc (.cells #[.map none] 60)) w' := by
  have hseq : SeqGives Fence.wide 2 Tryd.prog 42 #[.pointer (some ⟨w.heap.size, 0, none⟩)] encStr (fun ss : List (List UInt8) => ss = []) 0 (w.alloc (.cells #[.map none] 60)) :=
    AnyZ.keys_gives_nil (ρ := Tryd.keys29_ren) { Tryd.keys29 with } Fence.wide _ trivial rfl w.heap.size _ (by simp) (by simp)
  exact AnyZ.sorted_in Tryd.sorted28 Fence.wide 5 trivial trivial trivial trivial rfl (by omega) (Tryd.sorts28 _) (enters_of Tryd.func41 (by kernel_rfl) rfl) 42 #[.pointer (some ⟨w.heap.size, 0, none⟩)] trivial (enters_of Tryd.func42 (by kernel_rfl) rfl) _ 0 (Nat.zero_le _) (by omega) _ hseq

-- THE CALLER's WALK over 'slices.Sorted(maps.Keys(m))' (inside '(callsIn_wide (n := 6)).1'; 'have hfK : Fence.wide.fn 29 := trivial', 'have hfS : Fence.wide.fn 28 := trivial' ahead): THE TWO ARMS TO PASTE:
--   gi_wp2_with (first
--     | (gi_at_call 29; refine (Tryd.maps_Keys_29 _ _).mono ?_; rintro e w' ⟨rfl, rfl⟩)
--     | (gi_at_call 28; refine (Tryd.slices_Sorted_keys_28_29 b nn D0 R w hown hmax hbytes).mono ?_; rintro e w' ⟨v, ss, rfl, hS, hrow, hnil, hb⟩))

-- maps.Keys[map[int]bool,int,bool]: its keys are of no string's kind: not laid by this program
end Go.Proofs
