/- What a name is: the program's own look at a text, rune by rune, told by its bytes. Conditions: none. -/
import Derived.Test.YtonnhdffjbpgnaaProg
import Derived.WalkKit
import Derived.Deep.LoopGhost
import Derived.Lib.OthersKept
import Derived.Lib.Hide
import Derived.Test.YtonnhdffjbpgnaaWMore
import Derived.Test.YtonnhdffjbpgnaaWQPut
set_option linter.unusedVariables false
set_option linter.unusedSimpArgs false
namespace Go.Proofs.Ytonnhdffjbpgnaa
open Go.RowKit Go.Proofs.YtonnhdffjbpgnaaW.PrintWords Go.Proofs.YtonnhdffjbpgnaaW.PrintLast Go.Proofs.YtonnhdffjbpgnaaW.PrintMore

/-- A sign that no name bears. -/
def oddB (c : Int) : Bool := ((c < 97 || 122 < c) && (c < 48 || 57 < c)) && c != 45

/-- A byte that a name may bear. -/
def okB (b : UInt8) : Bool := !oddB (b.toNat : Int)
def allOk (s : ByteArray) : Bool := s.data.toList.all okB
def nameB (s : ByteArray) : Bool := (!s.toList.isEmpty && decide ((s.size : Int) ≤ 16)) && allOk s

theorem oddB_high (c : Int) (h : 128 ≤ c) : oddB c = true := by
  unfold oddB
  simp
  omega

theorem allOk_at {s : ByteArray} (h : ∀ i, ∀ hi : i < s.size, okB (s[i]'hi) = true) : allOk s = true := by
  unfold allOk
  rw [List.all_eq_true]
  intro b hb
  obtain ⟨i, hi, rfl⟩ := List.getElem_of_mem hb
  exact h i (by simpa using hi)

theorem allOk_not {s : ByteArray} (i : Nat) (hi : i < s.size) (h : okB (s[i]'hi) = false) : allOk s = false := by
  rw [Bool.eq_false_iff]
  intro ha
  unfold allOk at ha
  rw [List.all_eq_true] at ha
  have := ha (s[i]'hi) (List.getElem_mem (l := s.data.toList) (n := i) (by simpa using hi))
  rw [h] at this
  cases this

theorem odd_any (c : Int) (w : World) : Calls Try.prog 55 #[.int .i32 c] w fun e w' => e = .returned (.bool (oddB c)) ∧ w = w' := by
  have key : ∀ b, b = oddB c → Ending.returned (.bool b) = Ending.returned (.bool (oddB c)) := fun b h => by rw [h]
  go_enter Try.func55, Try.ntmps55
  go_wp2
  all_goals
    go_ret
    exact ⟨key _ (by unfold oddB; (rw [Bool.eq_iff_iff]) <;> (first | (simp; done) | (simp; omega))), rfl⟩

/-- The look at a text, rune by rune: where the first sign stands that no name bears; -1: none does. -/
theorem indexFunc_any (s : ByteArray) (w : World) (hs : s.size ≤ maxLen) :
    Calls Try.prog 75 #[.string s, .func (.func 55) #[] #[], .bool true] w fun e w' => ∃ n : Int, e = .returned (.int .i64 n) ∧ decide (0 ≤ n) = !allOk s ∧ Below w.heap.size w w' := by
  unfold maxLen at hs
  go_enter Try.func75, Try.ntmps75
  go_wp2
  go_loopg [11] (s.size + 1) (fun kq _ wr => ∃ pos : Nat, Hid (wr = w.iter s pos) ∧ pos ≤ s.size ∧ s.size < pos + kq ∧ Hid (∀ i, ∀ hi : i < s.size, i < pos → okB (s[i]'hi) = true))
  case atStart => exact ⟨0, rfl, Nat.zero_le _, by omega, fun i hi h => absurd h (by omega)⟩
  case round =>
    obtain ⟨pos, hw, hp, hk, HI⟩ := hrel
    have hw' := hw.out
    subst hw'
    clear hw
    have hend := fun ty => run_next_end (P := Try.prog) w s pos ty
    by_cases hlt : pos < s.size
    · by_cases ha : (s[pos]'hlt).toNat < 128
      · have hnx := fun ty => run_next_ascii (P := Try.prog) w s pos ty hlt ha
        clear hend
        obtain ⟨c, hc⟩ : ∃ c : Nat, c = (s[pos]'hlt).toNat := ⟨_, rfl⟩
        rw [← hc] at hnx
        have HC := Lib.hid hc
        clear hc ha
        cases ho : oddB (c : Int) with
        | true =>
          have hno : allOk s = false := allOk_not pos hlt (by unfold okB; rw [← HC.out, ho]; rfl)
          have HN := Lib.hid hno
          clear hno
          go_wp2_with ((go_at_call 55; refine (odd_any _ _).mono ?_; rintro e w' ⟨rfl, rfl⟩))
          go_ret
          exact ⟨pos, rfl, by rw [HN.out]; simp, (Below.refl _ _).alloc (Nat.le_refl _) _⟩
        | false =>
          have hok : okB (s[pos]'hlt) = true := by unfold okB; rw [← HC.out, ho]; rfl
          have HO := Lib.hid hok
          clear hok
          go_wp2_with ((go_at_call 55; refine (odd_any _ _).mono ?_; rintro e w' ⟨rfl, rfl⟩))
          go_roundg (gk - 1)
          case measure => omega
          case rel => exact ⟨pos + 1, rfl, by omega, by omega, fun i hi h => by
            by_cases e : i = pos
            · subst e; exact HO.out
            · exact HI.out i hi (by omega)⟩
      · obtain ⟨hh, hwd⟩ := decode_high s pos hlt (by omega)
        have hno : allOk s = false := allOk_not pos hlt (by unfold okB; rw [oddB_high _ (by omega)]; rfl)
        have hnx := fun ty => run_next_any (P := Try.prog) w s pos ty hlt
        have ho := oddB_high ((Utf8.decode s pos).1 : Int) (by omega)
        clear hend
        obtain ⟨c, hc⟩ : ∃ c : Nat, c = (Utf8.decode s pos).1 := ⟨_, rfl⟩
        obtain ⟨d, hd⟩ : ∃ d : Nat, d = (Utf8.decode s pos).2 := ⟨_, rfl⟩
        rw [← hc] at ho hnx
        rw [← hd] at hnx
        clear hc hd hh hwd ha
        have HN := Lib.hid hno
        clear hno
        go_wp2_with ((go_at_call 55; refine (odd_any _ _).mono ?_; rintro e w' ⟨rfl, rfl⟩))
        go_ret
        exact ⟨pos, rfl, by rw [HN.out]; simp, (Below.refl _ _).alloc (Nat.le_refl _) _⟩
    · have hend' := fun ty => hend ty hlt
      have hall : allOk s = true := allOk_at fun i hi => HI.out i hi (by omega)
      have HN := Lib.hid hall
      clear hend hall
      go_wp2
      go_ret
      exact ⟨-1, rfl, by rw [HN.out]; simp, (Below.refl _ _).alloc (Nat.le_refl _) _⟩

theorem contains_any (s : ByteArray) (w : World) (hs : s.size ≤ maxLen) :
    Calls Try.prog 56 #[.string s, .func (.func 55) #[] #[]] w fun e w' => e = .returned (.bool (!allOk s)) ∧ Below w.heap.size w w' := by
  have key : ∀ b, b = (!allOk s) → Ending.returned (.bool b) = Ending.returned (.bool (!allOk s)) := fun b h => by rw [h]
  go_enter Try.func56, Try.ntmps56
  go_wp2_with (go_in; go_wp2_with (go_at_call 75; refine (indexFunc_any _ _ hs).mono ?_; rintro e w' ⟨n, rfl, hn, hb⟩; have HN := Lib.hid hn; clear hn))
  go_ret
  exact ⟨key _ HN.out, hb⟩

theorem name_any (s : ByteArray) (w : World) (hs : s.size ≤ maxLen) :
    Calls Try.prog 49 #[.string s] w fun e w' => e = .returned (.bool (nameB s)) ∧ Below w.heap.size w w' := by
  have key : ∀ b, b = nameB s → Ending.returned (.bool b) = Ending.returned (.bool (nameB s)) := fun b h => by rw [h]
  go_enter Try.func49, Try.ntmps49
  go_wp2_with (go_at_call 56; refine (contains_any _ _ hs).mono ?_; rintro e w' ⟨rfl, hb⟩)
  all_goals
    go_ret
    refine ⟨key _ ?_, by first | exact Below.refl _ _ | assumption⟩
    simp_all [nameB] <;> (intros; omega)

theorem names1_any (s : ByteArray) (w : World) (hs : s.size ≤ maxLen) :
    Calls Try.prog 48 #[.string s] w fun e w' => e = .returned (.bool (!nameB s)) ∧ Below w.heap.size w w' := by
  have key : ∀ b, b = (!nameB s) → Ending.returned (.bool b) = Ending.returned (.bool (!nameB s)) := fun b h => by rw [h]
  go_enter Try.func48, Try.ntmps48
  go_wp2_with (go_at_call 49; refine (name_any _ _ hs).mono ?_; rintro e w' ⟨rfl, hb⟩)
  go_ret
  exact ⟨key _ rfl, hb⟩

theorem names_index (A : Option Addr) (c : Nat) (xs : List ByteArray) (w : World) (hr : Kd.C Kd.string w A xs.length xs) (hs : ∀ s ∈ xs, s.size ≤ maxLen) :
    Calls Try.prog 50 #[.slice A xs.length c, .func (.func 48) #[] #[]] w fun e w' => ∃ n : Int, e = .returned (.int .i64 n) ∧ decide (0 ≤ n) = !xs.all nameB ∧ Below w.heap.size w w' := by
  have HR := Aside0.mk hr
  have hlen : xs.length ≤ 9223372036854775807 := hr.2.1
  clear hr
  go_enter Try.func50, Try.ntmps50
  go_wp2
  go_loopg [8] (xs.length + 1) (fun kq v wr => ∃ i : Nat, v = .int .i64 i ∧ i ≤ xs.length ∧ xs.length < i + kq ∧ Aside0 (∀ j, j < i → nameB (rdOf ByteArray.empty xs j) = true) ∧ Aside0 (Below w.heap.size w wr))
  case atStart => exact ⟨0, rfl, Nat.zero_le _, by omega, ⟨fun j hj => absurd hj (by omega)⟩, ⟨Below.refl _ _⟩⟩
  case round =>
    obtain ⟨i, rfl, hi, hk, HI, HB⟩ := hrel
    by_cases hlt : i < xs.length
    · obtain ⟨ad, rfl, hx⟩ := Kd.at_string HR.out i (by omega) (by omega)
      replace hx := (HB.out.cell (World.block_lt_of_cell? w _ hx)).trans hx
      rw [Int.toNat_natCast] at hx
      have hsz : (rdOf ByteArray.empty xs (i : Int)).size ≤ maxLen := by
        unfold rdOf
        rw [List.getD_eq_getElem?_getD, List.getElem?_eq_getElem (by simpa using hlt)]
        exact hs _ (List.getElem_mem _)
      obtain ⟨s, hsd⟩ : ∃ s, s = rdOf ByteArray.empty xs (i : Int) := ⟨_, rfl⟩
      rw [← hsd] at hx hsz
      have HS := Aside0.mk hsd
      have HZ := Aside0.mk hsz
      have HS2 := Aside0.mk hs
      clear hsd hsz hs
      go_wp2_with (go_at_call 48; refine (names1_any _ _ HZ.out).mono ?_; rintro e w' ⟨rfl, hb⟩)
      · have hno : xs.all nameB = false := by
          rw [Bool.eq_false_iff]
          intro ha
          rw [List.all_eq_true] at ha
          have h1 : nameB s = true := by
            rw [HS.out]
            unfold rdOf
            rw [List.getD_eq_getElem?_getD, List.getElem?_eq_getElem (by simpa using hlt)]
            exact ha _ (List.getElem_mem _)
          simp_all
        have HN := Aside0.mk hno
        clear hno
        go_ret
        exact ⟨i, rfl, by rw [HN.out]; simp, below_step HB.out hb⟩
      · have hyes : nameB s = true := by simp_all
        go_roundg (gk - 1)
        case measure => omega
        case rel => exact ⟨i + 1, by go_num, by omega, by omega, ⟨fun j hj => by
          by_cases e : j = i
          · subst e; rw [← HS.out]; exact hyes
          · exact HI.out j (by omega)⟩, ⟨below_step HB.out hb⟩⟩
    · have hall : xs.all nameB = true := by
        rw [List.all_eq_true]
        intro s hs'
        obtain ⟨j, hj, rfl⟩ := List.getElem_of_mem hs'
        have := HI.out j (by omega)
        unfold rdOf at this
        rw [List.getD_eq_getElem?_getD, List.getElem?_eq_getElem (by simpa using hj)] at this
        simpa using this
      have HN := Aside0.mk hall
      clear hall
      have HS2 := Aside0.mk hs
      clear hs
      go_wp2
      go_ret
      exact ⟨-1, rfl, by rw [HN.out]; simp, HB.out⟩

theorem names_contains (A : Option Addr) (c : Nat) (xs : List ByteArray) (w : World) (hr : Kd.C Kd.string w A xs.length xs) (hs : ∀ s ∈ xs, s.size ≤ maxLen) :
    Calls Try.prog 47 #[.slice A xs.length c, .func (.func 48) #[] #[]] w fun e w' => e = .returned (.bool (!xs.all nameB)) ∧ Below w.heap.size w w' := by
  have key : ∀ b, b = (!xs.all nameB) → Ending.returned (.bool b) = Ending.returned (.bool (!xs.all nameB)) := fun b h => by rw [h]
  have HS := Aside0.mk hs
  clear hs
  go_enter Try.func47, Try.ntmps47
  go_wp2_with (go_at_call 50; refine (names_index _ _ _ _ hr HS.out).mono ?_; rintro e w' ⟨n, rfl, hn, hb⟩; have HN := Aside0.mk hn; clear hn)
  go_ret
  exact ⟨key _ HN.out, hb⟩

/-- 'names(a, b, ..)': the texts lie in the caller's own new row. -/
theorem names_any (A : Option Addr) (c : Nat) (xs : List ByteArray) (w : World) (hr : Kd.C Kd.string w A xs.length xs) (hs : ∀ s ∈ xs, s.size ≤ maxLen) :
    Calls Try.prog 36 #[.slice A xs.length c] w fun e w' => e = .returned (.bool (xs.all nameB)) ∧ Below w.heap.size w w' := by
  have key : ∀ b, b = (xs.all nameB) → Ending.returned (.bool b) = Ending.returned (.bool (xs.all nameB)) := fun b h => by rw [h]
  have HS := Aside0.mk hs
  clear hs
  go_enter Try.func36, Try.ntmps36
  go_wp2_with (go_at_call 47; refine (names_contains _ _ _ _ hr HS.out).mono ?_; rintro e w' ⟨rfl, hb⟩)
  go_ret
  exact ⟨key _ (by simp), hb⟩
end Go.Proofs.Ytonnhdffjbpgnaa
