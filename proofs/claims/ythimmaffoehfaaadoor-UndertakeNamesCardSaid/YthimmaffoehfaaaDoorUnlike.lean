/- Texts that are names, no two the same, as the program looks at them. Conditions: texts as a machine can hold. -/
import Derived.Test.YthimmaffoehfaaaDoorMark
import Derived.Test.YthimmaffoehfaaaDoorQStr
set_option linter.unusedVariables false
set_option linter.unusedSimpArgs false
set_option linter.unusedSectionVars false
namespace Go.Proofs.YthimmaffoehfaaaDoor
open Go.RowKit Go.Proofs.YthimmaffoehfaaaDoorW.PrintWords Go.Proofs.YthimmaffoehfaaaDoorW.PrintLast Go.Proofs.YthimmaffoehfaaaDoorW.PrintMore
open Q

theorem wrap_one {i : Int} (h0 : 0 ≤ i) (h : i ≤ 9223372036854775806) : wrap64 (i + 1) = i + 1 := by
  unfold wrap64
  omega
theorem bytes_inj {a b : ByteArray} (h : a.toList = b.toList) : a = b := by
  rw [ByteArray.toList_eq, ByteArray.toList_eq] at h
  obtain ⟨⟨a⟩⟩ := a
  obtain ⟨⟨b⟩⟩ := b
  simp at h
  rw [h]

def hasB (l : List ByteArray) (s : ByteArray) : Bool := l.any fun x => decide (s = x)

theorem rd_text {l : List ByteArray} {i : Nat} (h : i < l.length) : l.drop i = rdOf ByteArray.empty l (i : Int) :: l.drop (i + 1) := by
  rw [List.drop_eq_getElem_cons h]
  unfold rdOf
  rw [Int.toNat_natCast, List.getD_eq_getElem?_getD, List.getElem?_eq_getElem h]
  rfl

theorem index_text (l : List ByteArray) (s : ByteArray) (hl : l.length ≤ 1000) (d : Nat) : ∀ (k i : Nat), i ≤ l.length → l.length - i = d → d < k → ∃ n : Int, slices_Index_string_string.l0 k l s (l.length : Int) (i : Int) = some n ∧ decide (0 ≤ n) = hasB (l.drop i) s := by
  induction d with
  | zero =>
    intro k i hi hd hk
    obtain ⟨k, rfl⟩ : ∃ m, k = m + 1 := ⟨k - 1, by omega⟩
    rw [slices_Index_string_string.l0, if_neg (by omega), show l.drop i = [] from List.drop_eq_nil_of_le (by omega)]
    exact ⟨-1, rfl, rfl⟩
  | succ d ih =>
    intro k i hi hd hk
    obtain ⟨k, rfl⟩ : ∃ m, k = m + 1 := ⟨k - 1, by omega⟩
    have hlt : i < l.length := by omega
    rw [slices_Index_string_string.l0, if_pos (by omega), if_pos (by omega), if_pos (by omega), wrap_one (by omega) (by omega), rd_text hlt]
    by_cases e : s.toList = (rdOf ByteArray.empty l (i : Int)).toList
    · rw [if_pos e]
      refine ⟨i, rfl, ?_⟩
      have := bytes_inj e
      simp [hasB, ← this]
    · rw [if_neg e, show ((i : Int) + 1) = ((i + 1 : Nat) : Int) by omega]
      obtain ⟨n, hn, hd⟩ := ih k (i + 1) (by omega) (by omega) (by omega)
      refine ⟨n, hn, ?_⟩
      have : ¬ s = rdOf ByteArray.empty l (i : Int) := fun h => e (by rw [h])
      rw [hd]
      simp [hasB, this]
theorem contains_any (A : Option Addr) (c : Nat) (l : List ByteArray) (s : ByteArray) (w : World) (hr : Kd.C Kd.string w A l.length l) (hc : l.length ≤ c) (hl : l.length ≤ 1000) :
    Calls Tryd.prog 32 #[.slice A l.length c, .string s] w fun e w' => e = .returned (.bool (hasB l s)) ∧ ∃ n, w' = w.drewN n := by
  obtain ⟨n, hn, hd⟩ := index_text l s hl l.length (l.length + 1) 0 (by omega) (by omega) (by omega)
  refine (slices_Contains_string_string.calls (l.length + 1) A c l s (hasB l s) w hr hc ?_).mono ?_
  · unfold slices_Contains_string_string.f slices_Index_string_string.f
    rw [show (0 : Int) = ((0 : Nat) : Int) from rfl, hn]
    simp only [Option.bind_some]
    rw [List.drop_zero] at hd
    rw [← hd]
    rfl
  · rintro e w' ⟨rfl, n, rfl⟩
    exact ⟨rfl, n, rfl⟩

def unlikeB : List ByteArray → List ByteArray → Bool
  | _, [] => true
  | pre, s :: t => (nameB s && !hasB pre s) && unlikeB (pre ++ [s]) t

theorem text_take {w : World} {A : Option Addr} {l : List ByteArray} (h : Kd.C Kd.string w A l.length l) (n : Nat) (hn : n ≤ l.length) : Kd.C Kd.string w A n (l.take n) := by
  refine ⟨by simp; omega, by have := h.2.1; omega, fun h0 => ?_⟩
  obtain ⟨ad, e, hc⟩ := h.2.2 (by omega)
  refine ⟨ad, e, fun j p hj => hc j p ?_⟩
  rw [List.getElem?_take] at hj
  split at hj
  · exact hj
  · cases hj
theorem contains_n (A : Option Addr) (c n : Nat) (l : List ByteArray) (s : ByteArray) (w : World) (hr : Kd.C Kd.string w A n l) (hc : n ≤ c) (hl : l.length ≤ 1000) :
    Calls Tryd.prog 32 #[.slice A n c, .string s] w fun e w' => e = .returned (.bool (hasB l s)) ∧ ∃ n, w' = w.drewN n := by
  obtain rfl : l.length = n := hr.1
  exact contains_any A c l s w hr hc hl

theorem unlike_any (A : Option Addr) (c : Nat) (l : List ByteArray) (w : World) (hr : Kd.C Kd.string w A l.length l) (hc : l.length ≤ c) (hl : l.length ≤ 1000) (hs : ∀ s ∈ l, s.size ≤ 140737488351232) :
    Calls Tryd.prog 18 #[.slice A l.length c] w fun e w' => e = .returned (.bool (unlikeB [] l)) ∧ ∃ n, w' = w.drewN n := by
  have HR := Aside0.mk hr
  have HC := Aside0.mk hc
  have HL := Aside0.mk hl
  have HS := Aside0.mk hs
  obtain ⟨res, hres⟩ : ∃ res, res = unlikeB [] l := ⟨_, rfl⟩
  rw [← hres]
  have HRES := Aside0.mk hres
  clear hr hc hl hs hres
  go_enter Tryd.func18, Tryd.ntmps18
  go_wp2_with fail
  go_loopg [7] (l.length + 1) (fun kq v wr => ∃ i q : Nat, v = .int .i64 i ∧ i ≤ l.length ∧ l.length < i + kq ∧ Aside0 (unlikeB (l.take i) (l.drop i) = res) ∧ wr = w.drewN q)
  case atStart => exact ⟨0, 0, rfl, Nat.zero_le _, by omega, ⟨by rw [HRES.out]; rfl⟩, rfl⟩
  case round =>
    obtain ⟨i, q, rfl, hi, hk, HI, rfl⟩ := hrel
    by_cases hlt : i < l.length
    · obtain ⟨ad, rfl, hx⟩ := Kd.at_string (Kd.C_drewN HR.out q) i (by omega) (by omega)
      rw [Int.toNat_natCast] at hx
      have hdr := rd_text hlt
      obtain ⟨s, hsd⟩ : ∃ s, s = rdOf ByteArray.empty l (i : Int) := ⟨_, rfl⟩
      rw [← hsd] at hx hdr
      have hgt : l[i]? = some s := by
        have := congrArg List.head? hdr
        simpa [List.head?_drop] using this
      have HSZ := Aside0.mk (HS.out s (List.mem_of_getElem? hgt))
      have HTK : Aside0 (l.take (i + 1) = l.take i ++ [s]) := ⟨by rw [List.take_add_one, hgt]; rfl⟩
      have HST : Aside0 (res = ((nameB s && !hasB (l.take i) s) && unlikeB (l.take i ++ [s]) (l.drop (i + 1)))) := ⟨by rw [← HI.out, hdr, unlikeB]⟩
      have hic : i ≤ c := by have := HC.out; omega
      have hil : i ≤ l.length := hi
      clear hsd hdr hgt
      go_wp2_with (first
        | (go_at_call 19; refine (mark_any s _ HSZ.out).mono ?_; rintro e w' ⟨rfl, rfl⟩)
        | (go_at_call 32; refine (contains_n (some ad) c i (l.take i) s _ (Kd.C_drewN (text_take HR.out i hil) q) hic (by have := HL.out; simp; omega)).mono ?_; rintro e w' ⟨rfl, n, rfl⟩))
      · have hr : res = false := by rw [HST.out]; simp [*]
        go_ret
        exact ⟨by rw [hr]; rfl, _, rfl⟩
      · have hr : unlikeB (l.take (i + 1)) (l.drop (i + 1)) = res := by rw [HST.out, HTK.out]; simp [*]
        have HR2 := Aside0.mk hr
        clear hr
        go_roundg (gk - 1)
        case measure => omega
        case rel => exact ⟨i + 1, q + n, by rw [wrap_one (by omega) (by have := HL.out; omega)]; rfl, by omega, by omega, HR2, rfl⟩
      · have hr : res = false := by rw [HST.out]; simp [*]
        go_ret
        exact ⟨by rw [hr]; rfl, _, rfl⟩
    · have HA : Aside0 (res = true) := ⟨by
        have h9 : i = l.length := by omega
        rw [← HI.out, h9, List.drop_length]
        rfl⟩
      go_wp2
      go_ret
      exact ⟨by rw [HA.out]; rfl, q, rfl⟩
end Go.Proofs.YthimmaffoehfaaaDoor
