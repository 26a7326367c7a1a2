/- The table of what may happen to a credit's life: the array that the program makes anew at each call. Conditions: none. -/
import Derived.Test.YthimmaffoehfaaaDoorMay
set_option linter.unusedVariables false
set_option linter.unusedSimpArgs false
set_option linter.unusedSectionVars false
namespace Go.Proofs.YthimmaffoehfaaaDoor
open Go.RowKit Go.Proofs.YthimmaffoehfaaaDoorW.PrintWords Go.Proofs.YthimmaffoehfaaaDoorW.PrintLast Go.Proofs.YthimmaffoehfaaaDoorW.PrintMore
open Q

theorem to_any (n : Int) (w : World) : Calls Tryd.prog 22 #[.int .i64 n] w fun e w' => e = .returned (.func (.func 38) #[] #[.pointer (some ⟨w.heap.size, 0, none⟩)]) ∧ w' = w.alloc (.cells #[.int .i64 n] 3) := by
  go_enter Tryd.func22, Tryd.ntmps22
  go_wp2
  go_ret
  exact ⟨rfl, rfl⟩

abbrev nums1 (l : List Int) : Obj := .cells (l.map (Value.int .i64)).toArray 3
/-- The blocks of the table's states and captured states, from block n on. -/
structure KTab (w : World) (n : Nat) : Prop where
  s0 : w.heap[n + 1]? = some (nums1 [0])
  c0 : w.heap[n + 2]? = some (nums1 [1])
  s1 : w.heap[n + 3]? = some (nums1 [1])
  s2 : w.heap[n + 4]? = some (nums1 [1, 3, 6])
  s3 : w.heap[n + 5]? = some (nums1 [2])
  c3 : w.heap[n + 6]? = some (nums1 [3])
  s4 : w.heap[n + 7]? = some (nums1 [2])
  c4 : w.heap[n + 8]? = some (nums1 [4])
  s5 : w.heap[n + 9]? = some (nums1 [4])
  s6 : w.heap[n + 10]? = some (nums1 [5])
  s7 : w.heap[n + 11]? = some (nums1 [0, 1, 3, 6])
theorem KTab.step {w w' : World} {n : Nat} (h : KTab w n) (hk : ∀ k, n < k → k ≤ n + 11 → w'.heap[k]? = w.heap[k]?) : KTab w' n :=
  ⟨(hk _ (by omega) (by omega)).trans h.s0, (hk _ (by omega) (by omega)).trans h.c0, (hk _ (by omega) (by omega)).trans h.s1, (hk _ (by omega) (by omega)).trans h.s2, (hk _ (by omega) (by omega)).trans h.s3, (hk _ (by omega) (by omega)).trans h.c3, (hk _ (by omega) (by omega)).trans h.s4, (hk _ (by omega) (by omega)).trans h.c4, (hk _ (by omega) (by omega)).trans h.s5, (hk _ (by omega) (by omega)).trans h.s6, (hk _ (by omega) (by omega)).trans h.s7⟩

def kSl (n j c : Nat) : Value := .slice (some ⟨n + j, 0, none⟩) c c
def kFn (f : Nat) : Value := .func (.func f) #[] #[]
def kTo (n j : Nat) : Value := .func (.func 38) #[] #[.pointer (some ⟨n + j, 0, none⟩)]
def kCells (n : Nat) : Array Value := #[kSl n 1 1, kFn 21, kTo n 2, kSl n 3 1, kFn 23, kFn 24, kSl n 4 3, kFn 25, kFn 26,
  kSl n 5 1, kFn 15, kTo n 6, kSl n 7 1, kFn 15, kTo n 8, kSl n 9 1, kFn 15, kFn 27, kSl n 10 1, kFn 16, kFn 28, kSl n 11 4, kFn 21, kFn 29]

theorem there_of_block {w : World} {g t : Nat} {cs : Array Value} (h : w.heap[g]? = some (.cells cs t)) : w.there g 0 cs.size := by
  intro j hj
  simp only [World.cell?, World.frozen?, h, Nat.zero_add]
  simp [hj]

theorem kCells_one (n : Nat) : (kCells n).all (·.oneCell') = true := by
  simp [kCells, kSl, kFn, kTo, Value.oneCell']
theorem setCells_block {w : World} {g t : Nat} {cs : Array Value} (h : w.heap[g]? = some (.cells cs t (0, 0))) (vs : List Value) : ∀ o, o + vs.length ≤ cs.size → ∃ cs', (w.setCells g o vs).heap[g]? = some (.cells cs' t (0, 0)) := by
  induction vs generalizing w cs with
  | nil => intro o _; exact ⟨cs, h⟩
  | cons v vs ih =>
    intro o ho
    exact ih (heap_setCell_same w g o cs t v h) (o + 1) (by simp at ho ⊢; omega)

def allocs (w : World) : List Obj → World
  | [] => w
  | o :: l => allocs (w.alloc o) l
theorem allocs_size (l : List Obj) : ∀ w, (allocs w l).heap.size = w.heap.size + l.length := by
  induction l with
  | nil => intro w; rfl
  | cons o l ih => intro w; rw [allocs, ih]; simp; omega
theorem allocs_below (l : List Obj) : ∀ w, Below w.heap.size w (allocs w l) := by
  induction l with
  | nil => intro w; exact Below.refl _ _
  | cons o l ih => intro w; exact ((Below.refl _ _).alloc (Nat.le_refl _) o).trans ((ih _).mono (by simp))
theorem allocs_get (l : List Obj) : ∀ w i, i < l.length → (allocs w l).heap[w.heap.size + i]? = l[i]? := by
  induction l with
  | nil => intro w i hi; simp at hi
  | cons o l ih =>
    intro w i hi
    rw [allocs]
    cases i with
    | zero => rw [(allocs_below l (w.alloc o)).block _ (by simp), Nat.add_zero, heap_alloc_new]; rfl
    | succ i =>
      have := ih (w.alloc o) i (by simpa using hi)
      rw [World.size_alloc, Nat.add_assoc, Nat.add_comm 1] at this
      simpa using this
def kZero : Array Value := #[.slice none 0 0, .nilFunc, .nilFunc, .slice none 0 0, .nilFunc, .nilFunc, .slice none 0 0, .nilFunc, .nilFunc, .slice none 0 0, .nilFunc, .nilFunc, .slice none 0 0, .nilFunc, .nilFunc, .slice none 0 0, .nilFunc, .nilFunc, .slice none 0 0, .nilFunc, .nilFunc, .slice none 0 0, .nilFunc, .nilFunc]
def kObjs : List Obj := [.cells kZero 58, nums1 [0], nums1 [1], nums1 [1], nums1 [1, 3, 6], nums1 [2], nums1 [3], nums1 [2], nums1 [4], nums1 [4], nums1 [5], nums1 [0, 1, 3, 6]]
theorem kObjs_at (w : World) (i : Nat) (o : Obj) (h : kObjs[i]? = some o) : (allocs w kObjs).heap[w.heap.size + i]? = some o := by
  rw [allocs_get kObjs w i (List.getElem?_eq_some_iff.1 h).1, h]
theorem setCells_block_ne {w : World} {g k : Nat} (hk : k ≠ g) (vs : List Value) : ∀ (w : World) o, (w.setCells g o vs).heap[k]? = w.heap[k]? := by
  induction vs with
  | nil => intro w o; rfl
  | cons v vs ih =>
    intro w o
    exact (ih _ _).trans (Below.heap_setCell w ⟨g, o, none⟩ v k hk)
theorem setCells_below (w0 : World) (B g : Nat) (hg : B ≤ g) (vs : List Value) : ∀ (w : World) o, Below B w0 w → Below B w0 (w.setCells g o vs) := by
  induction vs with
  | nil => intro w o h; exact h
  | cons v vs ih =>
    intro w o h
    exact ih _ _ (h.setCell (p := ⟨g, o, none⟩) hg v)
theorem kObjs_there (w : World) : (allocs w kObjs).there w.heap.size 0 24 := there_of_block (cs := kZero) (kObjs_at w 0 _ rfl)
theorem kObjs_tab (w : World) (vs : List Value) (o : Nat) : KTab ((allocs w kObjs).setCells w.heap.size o vs) w.heap.size := by
  have h : KTab (allocs w kObjs) w.heap.size := ⟨kObjs_at w 1 _ rfl, kObjs_at w 2 _ rfl, kObjs_at w 3 _ rfl, kObjs_at w 4 _ rfl, kObjs_at w 5 _ rfl, kObjs_at w 6 _ rfl, kObjs_at w 7 _ rfl, kObjs_at w 8 _ rfl, kObjs_at w 9 _ rfl, kObjs_at w 10 _ rfl, kObjs_at w 11 _ rfl⟩
  exact h.step fun k h1 h2 => setCells_block_ne (w := w) (by omega) vs _ _

set_option maxHeartbeats 2000000 in
theorem kinds_any (w : World) : Calls Tryd.prog 14 #[] w fun e w' => e = .returned (.agg (kCells w.heap.size)) ∧ Below w.heap.size w w' ∧ KTab w' w.heap.size := by
  have HT := Aside0.mk (kObjs_tab w (kCells w.heap.size).toList 0)
  have HH := Aside0.mk (kObjs_there w)
  have HB := Aside0.mk (setCells_below w w.heap.size w.heap.size (Nat.le_refl _) (kCells w.heap.size).toList _ 0 (allocs_below kObjs w))
  have HR := Aside0.mk (World.rangeAt_setCells_same (allocs w kObjs) w.heap.size 0 (kCells w.heap.size).toList HH.out)
  go_enter Tryd.func14, Tryd.ntmps14
  have hone := Aside0.mk (kCells_one w.heap.size)
  go_wp2_with (first | (go_at_call 22; refine (to_any _ _).mono ?_; rintro e w' ⟨rfl, rfl⟩) | ((with_reducible refine gate_store (t := 58) (p := 0) (v := .tmp 20) rfl ?_); refine wpList_store_mid (op := _) (w := allocs w kObjs) rfl 58 (.tmp 0) (.tmp 20) rfl w.heap.size 0 (kCells w.heap.size) ?hx ?hy HH.out ?hi hone.out ?_; (case hx => rfl); (case hy => rfl); (case hi => kernel_rfl); (generalize (allocs w kObjs).setCells w.heap.size 0 (kCells w.heap.size).toList = W1 at HT HB HR ⊢)))
  have hrun := run_loadVar_mid (P := Tryd.prog) W1 w.heap.size 0 58 (kCells w.heap.size).toList _ HR.out Tryd.underlying58 rfl (by kernel_rfl)
  exact bodyPost_ret (v := .agg (kCells w.heap.size)) (by simp [results, Tryd.results14, asAddr, hrun, Act.put]) rfl ⟨rfl, HB.out, HT.out⟩
end Go.Proofs.YthimmaffoehfaaaDoor
