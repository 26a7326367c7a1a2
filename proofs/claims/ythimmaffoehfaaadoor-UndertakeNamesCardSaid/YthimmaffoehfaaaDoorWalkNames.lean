/- The law UndertakeNames, walked: it tells true wherever the program's table of names lies as the text lays it. Conditions: the table's cells. -/
import Derived.Test.YthimmaffoehfaaaDoorAwake
import Derived.Test.YthimmaffoehfaaaDoorQNames
set_option linter.unusedVariables false
set_option linter.unusedSimpArgs false
set_option linter.unusedSectionVars false
namespace Go.Proofs.YthimmaffoehfaaaDoor
open Go.RowKit Go.Proofs.YthimmaffoehfaaaDoorW.PrintWords Go.Proofs.YthimmaffoehfaaaDoorW.PrintLast Go.Proofs.YthimmaffoehfaaaDoorW.PrintMore
open Q

def namesL : List ByteArray := [⟨#[105, 115, 115, 117, 101, 100]⟩, ⟨#[97, 100, 118, 105, 115, 101, 100]⟩, ⟨#[112, 114, 101, 115, 101, 110, 116, 101, 100]⟩, ⟨#[114, 101, 102, 117, 115, 101, 100]⟩, ⟨#[104, 111, 110, 111, 117, 114, 101, 100]⟩, ⟨#[112, 97, 105, 100]⟩, ⟨#[114, 101, 105, 109, 98, 117, 114, 115, 101, 100]⟩, ⟨#[101, 120, 112, 105, 114, 101, 100]⟩]
/-- The table lies in block 0. -/
def NamesAt (w : World) : Prop := ∀ i, i < 8 → w.cell? ⟨0, i, none⟩ = some (.string (rdOf ByteArray.empty namesL (i : Int)))
theorem NamesAt.below {w w' : World} (h : NamesAt w) (hb : Below w.heap.size w w') : NamesAt w' := by
  have h0 : 0 < w.heap.size := by
    have := h 0 (by omega)
    unfold World.cell? at this
    by_cases e : 0 < w.heap.size
    · exact e
    · rw [Array.getElem?_eq_none (by omega)] at this
      simp at this
  intro i hi
  rw [hb.cell (p := ⟨0, i, none⟩) h0]
  exact h i hi
theorem name_in (k : Nat) (w : World) (hk : k < 8) (h : NamesAt w) : Calls Tryd.prog 6 #[.int .i64 (k : Int)] w fun e w' => e = .returned (.string (rdOf ByteArray.empty namesL (k : Int))) ∧ w = w' := by
  have hc := h k hk
  generalize rdOf ByteArray.empty namesL (k : Int) = p at hc ⊢
  have h1 : decide ((k : Int) < 0) = false := by simp
  have h2 : decide ((8 : Int) ≤ (k : Int)) = false := by simp; omega
  clear h
  go_enter Tryd.func6, Tryd.ntmps6
  go_wp2
  go_ret
  exact ⟨rfl, rfl⟩
theorem name_out (n : Int) (w : World) (hn : n < 0 ∨ 8 ≤ n) : Calls Tryd.prog 6 #[.int .i64 n] w fun e w' => e = .returned (.string ⟨#[]⟩) ∧ w = w' := by
  rcases hn with hn | hn
  · go_enter Tryd.func6, Tryd.ntmps6
    go_wp2
    go_ret
    exact ⟨rfl, rfl⟩
  · have h0 : ¬ n < 0 := by omega
    go_enter Tryd.func6, Tryd.ntmps6
    go_wp2
    go_ret
    exact ⟨rfl, rfl⟩
theorem names_walk (n : Int) (w : World) (h : NamesAt w) : Calls Tryd.prog 3 #[.int .i64 n] w fun e w' => e = .returned (.bool true) ∧ Below w.heap.size w w' := by
  have HN := Aside0.mk h
  clear h
  by_cases hn : 0 ≤ n ∧ n < 8
  · obtain ⟨k, rfl⟩ := Int.eq_ofNat_of_zero_le hn.1
    have hk : k < 8 := by omega
    have h2 : decide ((k : Int) ≤ 7) = true := by simp; omega
    clear hn
    go_enter Tryd.func3, Tryd.ntmps3
    go_wp2_with fail
    refine (awake_any _).mono ?_
    rintro e w1 ⟨rfl, hb1⟩
    have HB1 := Aside0.mk hb1
    clear hb1
    go_wp2_with fail
    refine (supercargoref34_Names.calls namesL _ rfl).mono ?_
    rintro e w2 ⟨v0, rfl, hR, hb2⟩
    have HB2 := Aside0.mk (Below.trans HB1.out (hb2.mono HB1.out.size))
    obtain ⟨A, c, rfl, hc, hr⟩ := Kd.R_reads hR
    have h8 : namesL.length = 8 := rfl
    rw [h8] at hc hr ⊢
    obtain ⟨ad, rfl, hx⟩ := Kd.at_string hr (k : Int) (by omega) (by omega)
    rw [Int.toNat_natCast] at hx
    have HNM := Aside0.mk (name_in k w2 hk (HN.out.below HB2.out))
    generalize rdOf ByteArray.empty namesL (k : Int) = p at hx HNM
    clear hR hb2 hr h8
    go_wp2_with (go_at_call 6; refine (HNM.out).mono ?_; rintro e w' ⟨rfl, rfl⟩)
    go_ret
    exact ⟨rfl, HB2.out⟩
  · have HOUT := Aside0.mk (fun W => name_out n W (by omega))
    by_cases h0 : 0 ≤ n
    · have h8 : ¬ n ≤ 7 := by omega
      clear hn
      go_enter Tryd.func3, Tryd.ntmps3
      go_wp2_with fail
      refine (awake_any _).mono ?_
      rintro e w1 ⟨rfl, hb1⟩
      have HB1 := Aside0.mk hb1
      clear hb1
      go_wp2_with (go_at_call 6; refine (HOUT.out _).mono ?_; rintro e w' ⟨rfl, rfl⟩)
      go_ret
      exact ⟨rfl, HB1.out⟩
    · clear hn
      have h1 : decide (0 ≤ n) = false := by simpa using h0
      go_enter Tryd.func3, Tryd.ntmps3
      go_wp2_with fail
      refine (awake_any _).mono ?_
      rintro e w1 ⟨rfl, hb1⟩
      have HB1 := Aside0.mk hb1
      clear hb1
      go_wp2_with (go_at_call 6; refine (HOUT.out _).mono ?_; rintro e w' ⟨rfl, rfl⟩)
      go_ret
      exact ⟨rfl, HB1.out⟩
end Go.Proofs.YthimmaffoehfaaaDoor
