/- A name of the chapter, as the program looks at it. Conditions: none. -/
import Derived.Test.YtnhbbfbllkefcaaDoorQx0
set_option linter.unusedVariables false
set_option linter.unusedSimpArgs false
set_option linter.unusedSectionVars false
namespace Go.Proofs.YtnhbbfbllkefcaaDoor
open Go.RowKit Go.Proofs.YtnhbbfbllkefcaaDoorW.PrintWords Go.Proofs.YtnhbbfbllkefcaaDoorW.PrintLast Go.Proofs.YtnhbbfbllkefcaaDoorW.PrintMore
open Q

/-- A byte that a name may bear. -/
def okC (c : Int) : Bool := (decide (97 ≤ c) && decide (c ≤ 122)) || (decide (48 ≤ c) && decide (c ≤ 57)) || c == 45
def okB (b : UInt8) : Bool := okC (b.toNat : Int)
def nameB (s : ByteArray) : Bool := (decide (1 ≤ s.size) && decide (s.size ≤ 16)) && s.data.toList.all okB

theorem lower_any (c : Int) (w : World) : Calls Tryd.prog 45 #[.int .u8 c] w fun e w' => e = .returned (.bool (decide (97 ≤ c) && decide (c ≤ 122))) ∧ w = w' := by
  have key : ∀ b, b = (decide (97 ≤ c) && decide (c ≤ 122)) → Ending.returned (.bool b) = Ending.returned (.bool (decide (97 ≤ c) && decide (c ≤ 122))) := fun b h => by rw [h]
  go_enter Tryd.func45, Tryd.ntmps45
  go_wp2
  all_goals
    go_ret
    exact ⟨key _ (by (rw [Bool.eq_iff_iff]) <;> (first | (simp; done) | (simp; omega))), rfl⟩
theorem digit_any (c : Int) (w : World) : Calls Tryd.prog 46 #[.int .u8 c] w fun e w' => e = .returned (.bool (decide (48 ≤ c) && decide (c ≤ 57))) ∧ w = w' := by
  have key : ∀ b, b = (decide (48 ≤ c) && decide (c ≤ 57)) → Ending.returned (.bool b) = Ending.returned (.bool (decide (48 ≤ c) && decide (c ≤ 57))) := fun b h => by rw [h]
  go_enter Tryd.func46, Tryd.ntmps46
  go_wp2
  all_goals
    go_ret
    exact ⟨key _ (by (rw [Bool.eq_iff_iff]) <;> (first | (simp; done) | (simp; omega))), rfl⟩
theorem sign_any (c : Int) (w : World) : Calls Tryd.prog 44 #[.int .u8 c] w fun e w' => e = .returned (.bool (okC c)) ∧ w = w' := by
  have key : ∀ b, b = okC c → Ending.returned (.bool b) = Ending.returned (.bool (okC c)) := fun b h => by rw [h]
  go_enter Tryd.func44, Tryd.ntmps44
  go_wp2_with (first
    | (go_at_call 45; refine (lower_any _ _).mono ?_; rintro e w' ⟨rfl, rfl⟩)
    | (go_at_call 46; refine (digit_any _ _).mono ?_; rintro e w' ⟨rfl, rfl⟩))
  all_goals
    go_ret
    refine ⟨key _ ?_, rfl⟩
    clear key
    unfold okC
    first
      | (simp [*]; done)
      | (rw [Bool.eq_iff_iff]; simp; omega)

theorem all_any (s : ByteArray) (w : World) (hs : s.size ≤ 1000000) : Calls Tryd.prog 43 #[.string s, .func (.func 44) #[] #[]] w fun e w' => e = .returned (.bool (s.data.toList.all okB)) ∧ w = w' := by
  have HS := Aside0.mk hs
  clear hs
  go_enter Tryd.func43, Tryd.ntmps43
  go_wp2_with fail
  go_loopg [8] (s.size + 1) (fun kq v wr => ∃ i : Nat, v = .int .i64 i ∧ i ≤ s.size ∧ s.size < i + kq ∧ Aside0 ((s.data.toList.take i).all okB = true) ∧ w = wr)
  case atStart => exact ⟨0, rfl, Nat.zero_le _, by omega, ⟨by simp⟩, rfl⟩
  case round =>
    obtain ⟨i, rfl, hi, hk, HI, rfl⟩ := hrel
    by_cases hlt : i < s.size
    · have hsz := HS.out
      have hget : s.data.toList.take (i + 1) = s.data.toList.take i ++ [s[i]'hlt] := by
        have hl : i < s.data.toList.length := by rw [Array.length_toList]; exact hlt
        rw [List.take_add_one, List.getElem?_eq_getElem hl]
        rfl
      have hmem : s[i]'hlt ∈ s.data.toList := by
        have hl : i < s.data.toList.length := by rw [Array.length_toList]; exact hlt
        exact List.getElem_mem hl
      have HG := Aside0.mk hget
      have HM := Aside0.mk hmem
      clear hget hmem
      go_wp2_with (go_at_call 44; refine (sign_any _ _).mono ?_; rintro e w' ⟨rfl, rfl⟩)
      · have hno : s.data.toList.all okB = false := by
          rw [Bool.eq_false_iff]
          intro ha
          have h1 : okB (s[i]'hlt) = true := List.all_eq_true.1 ha _ HM.out
          have h2 : (!okC ((s[i]'hlt).toNat : Int)) = true := by assumption
          unfold okB at h1
          rw [h1] at h2
          cases h2
        go_ret
        exact ⟨by rw [hno]; rfl, rfl⟩
      · have hyes : okB (s[i]'hlt) = true := by
          have h2 : (!okC ((s[i]'hlt).toNat : Int)) = false := by assumption
          unfold okB
          simpa using h2
        go_roundg (gk - 1)
        case measure => omega
        case rel => exact ⟨i + 1, rfl, by omega, by omega, ⟨by rw [HG.out, List.all_append, HI.out]; simp [hyes]⟩, rfl⟩
    · have HA : Aside0 (s.data.toList.all okB = true) := ⟨by
        have h9 : i = s.data.toList.length := by
          have : s.data.toList.length = s.size := Array.length_toList
          omega
        have := HI.out
        rw [h9, List.take_length] at this
        exact this⟩
      go_wp2
      go_ret
      exact ⟨by rw [HA.out]; rfl, rfl⟩

theorem mark_any (s : ByteArray) (w : World) (hs : s.size ≤ 140737488351232) : Calls Tryd.prog 30 #[.string s] w fun e w' => e = .returned (.bool (nameB s)) ∧ w = w' := by
  have key : ∀ b, b = nameB s → Ending.returned (.bool b) = Ending.returned (.bool (nameB s)) := fun b h => by rw [h]
  by_cases h1 : s.size ≤ 16
  · go_enter Tryd.func30, Tryd.ntmps30
    go_wp2_with (go_at_call 43; refine (all_any s _ (by omega)).mono ?_; rintro e w' ⟨rfl, rfl⟩)
    all_goals
      go_ret
      refine ⟨key _ ?_, rfl⟩
      clear key
      unfold nameB
      first
        | (simp [*]; done)
        | (rw [Bool.eq_iff_iff]; simp; omega)
  · go_enter Tryd.func30, Tryd.ntmps30
    go_wp2
    all_goals
      go_ret
      refine ⟨key _ ?_, rfl⟩
      clear key
      unfold nameB
      first
        | (simp [*]; done)
        | (rw [Bool.eq_iff_iff]; simp; omega)
end Go.Proofs.YtnhbbfbllkefcaaDoor
