/- Two rows that tell alike, held together by the document's Same. Conditions: rows as a machine can hold. -/
import Derived.Test.YthimmaffoehfaaaPureU
set_option linter.unusedVariables false
set_option linter.unusedSimpArgs false
set_option linter.unusedSectionVars false
namespace Go.Proofs.Ythimmaffoehfaaa
open Go.RowKit Go.Proofs.YthimmaffoehfaaaW.PrintWords Go.Proofs.YthimmaffoehfaaaW.PrintLast Go.Proofs.YthimmaffoehfaaaW.PrintMore
open Q

set_option maxHeartbeats 1000000 in
theorem same_any (A B : Option Addr) (c d : Nat) (l : List S40) (w : World) (ha : Kd.C k40 w A l.length l) (hb : Kd.C k40 w B l.length l) (hc : l.length ≤ c) (hd : l.length ≤ d) :
    Calls Try.prog 19 #[.slice A l.length c, .slice B l.length d] w fun e w' => e = .returned (.bool true) ∧ ∃ n, w' = w.drewN n := by
  have hu40 := Try.underlying40
  have HA := Aside0.mk ha
  have HB := Aside0.mk hb
  have hl48 : l.length ≤ maxLen := ha.2.1
  unfold maxLen at hl48
  clear ha hb
  go_enter Try.func19, Try.ntmps19
  go_wp2_with fail
  go_loopg [5] (l.length + 1) (fun kq v wr => ∃ i : Nat, v = .int .i64 i ∧ i ≤ l.length ∧ l.length < i + kq ∧ ∃ n, wr = w.drewN n)
  case atStart => exact ⟨0, rfl, by omega, by omega, 0, by simp [World.drewN]⟩
  case round =>
    obtain ⟨i, rfl, hi, hk, n, rfl⟩ := hrel
    by_cases hlt : i < l.length
    · obtain ⟨ad, rfl, y0, y1, y2, y3⟩ := at_T40 HA.out (i : Int) (by omega) (by omega)
      obtain ⟨bd, rfl, z0, z1, z2, z3⟩ := at_T40 HB.out (i : Int) (by omega) (by omega)
      rw [Int.toNat_natCast] at y0 y1 y2 y3 z0 z1 z2 z3
      obtain ⟨ev, hev⟩ : ∃ ev, ev = rd_T40 l (i : Int) := ⟨_, rfl⟩
      rw [← hev] at y0 y1 y2 y3 z0 z1 z2 z3
      clear hev
      have h1 : i < c := by omega
      have h2 : i < d := by omega
      go_wp2_with fail
      go_quiet (fail)
      go_wp2_with fail
      go_roundg (gk - 1)
      case measure => omega
      case rel => exact ⟨i + 1, rfl, by omega, by omega, _, rfl⟩
    · go_wp2_with fail
      go_ret
      exact ⟨rfl, n, rfl⟩
end Go.Proofs.Ythimmaffoehfaaa
