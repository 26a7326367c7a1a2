/- Lots joined: those of one good are one, by their codes' order. Conditions: at most a hundred thousand lots, texts as a machine can hold. -/
import Derived.Test.YtnhbbfbllkefcaaDoorKeys
set_option linter.unusedVariables false
set_option linter.unusedSimpArgs false
set_option linter.unusedSectionVars false
namespace Go.Proofs.YtnhbbfbllkefcaaDoor
open Go.RowKit Go.Proofs.YtnhbbfbllkefcaaDoorW.PrintWords Go.Proofs.YtnhbbfbllkefcaaDoorW.PrintLast Go.Proofs.YtnhbbfbllkefcaaDoorW.PrintMore
open Q

theorem infoL : (Tryd.prog.info? 38).map (fun i => (i.zero, i.size, i.bytes)) = some (some (.agg #[(.string ⟨#[]⟩), (.int .i64 0)]), 2, 24) := by kernel_rfl
def keysC (M : List (ByteArray × Int)) : List ByteArray := sortedT (M.map (·.1))
def lotOf (M : List (ByteArray × Int)) (k : ByteArray) : S38 := ⟨k, cget M k⟩
def joinL (l : List S38) : List S38 := (keysC (cntF [] l)).map (lotOf (cntF [] l))
theorem cput_keys (k : ByteArray) (n : Int) : ∀ M : List (ByteArray × Int), (∀ p ∈ cput M k n, p.1 = k ∨ ∃ q ∈ M, q.1 = p.1) ∧ (cput M k n).length ≤ M.length + 1
  | [] => ⟨fun p hp => by simp [cput] at hp; exact .inl (by rw [hp]), by simp [cput]⟩
  | p :: M => by
    obtain ⟨h1, h2⟩ := cput_keys k n M
    have e : cput (p :: M) k n = if k = p.1 then (p.1, n) :: M else p :: cput M k n := rfl
    rw [e]
    by_cases h : k = p.1
    · rw [if_pos h]
      refine ⟨fun q hq => ?_, by simp⟩
      rcases List.mem_cons.1 hq with rfl | hq
      · exact .inl h.symm
      · exact .inr ⟨q, by simp [hq], rfl⟩
    · rw [if_neg h]
      refine ⟨fun q hq => ?_, by simp; omega⟩
      rcases List.mem_cons.1 hq with rfl | hq
      · exact .inr ⟨q, by simp, rfl⟩
      · rcases h1 q hq with h3 | ⟨z, hz, h3⟩
        · exact .inl h3
        · exact .inr ⟨z, by simp [hz], h3⟩
theorem cnt_keys (l : List S38) : ∀ M : List (ByteArray × Int), (∀ p ∈ cntF M l, (∃ x ∈ l, x.f0 = p.1) ∨ ∃ q ∈ M, q.1 = p.1) ∧ (cntF M l).length ≤ M.length + l.length := by
  induction l with
  | nil => intro M; exact ⟨fun p hp => .inr ⟨p, hp, rfl⟩, by simp [cntF]⟩
  | cons x l ih =>
    intro M
    have e : cntF M (x :: l) = if 0 < x.f1 then cntF (cput M x.f0 (wrap64 (cget M x.f0 + x.f1))) l else cntF M l := rfl
    rw [e]
    by_cases h : 0 < x.f1
    · rw [if_pos h]
      obtain ⟨h1, h2⟩ := ih (cput M x.f0 (wrap64 (cget M x.f0 + x.f1)))
      obtain ⟨h3, h4⟩ := cput_keys x.f0 (wrap64 (cget M x.f0 + x.f1)) M
      refine ⟨fun p hp => ?_, by simp; omega⟩
      rcases h1 p hp with ⟨y, hy, e⟩ | ⟨q, hq, e⟩
      · exact .inl ⟨y, by simp [hy], e⟩
      · rcases h3 q hq with h5 | ⟨z, hz, h5⟩
        · exact .inl ⟨x, by simp, by rw [← e, h5]⟩
        · exact .inr ⟨z, hz, by rw [h5, e]⟩
    · rw [if_neg h]
      obtain ⟨h1, h2⟩ := ih M
      refine ⟨fun p hp => ?_, by simp; omega⟩
      rcases h1 p hp with ⟨y, hy, e⟩ | hq
      · exact .inl ⟨y, by simp [hy], e⟩
      · exact .inr hq
theorem cnt_sized {l : List S38} (hs : SizedL l) : ∀ x ∈ cntF [] l, x.1.size ≤ maxLen := by
  intro p hp
  rcases (cnt_keys l []).1 p hp with ⟨y, hy, e⟩ | ⟨q, hq, _⟩
  · have := hs y hy
    rw [← e]
    unfold maxLen
    omega
  · simp at hq
theorem cnt_len (l : List S38) : (cntF [] l).length ≤ l.length := by have := (cnt_keys l []).2; simpa using this
theorem keys_len (M : List (ByteArray × Int)) : (keysC M).length = M.length := by unfold keysC; rw [sortedT_len]; simp
theorem rd_text {l : List ByteArray} {i : Nat} (h : i < l.length) : l.drop i = rdOf ByteArray.empty l (i : Int) :: l.drop (i + 1) := by
  rw [List.drop_eq_getElem_cons h]
  unfold rdOf
  rw [Int.toNat_natCast, List.getD_eq_getElem?_getD, List.getElem?_eq_getElem h]
  rfl

set_option maxRecDepth 100000 in
theorem join_any (A : Option Addr) (c : Nat) (l : List S38) (w : World) (hr : Kd.C k38 w A l.length l) (hc : l.length ≤ c) (hs : SizedL l) (hl : l.length ≤ 100000) :
    Calls Tryd.prog 14 #[.slice A l.length c] w fun e w' => ∃ v, e = .returned v ∧ Kd.R k38 38 w' w.heap.size (fun _ => True) v (joinL l) ∧ Below w.heap.size w w' := by
  have hu38 := Tryd.underlying38
  have HCN := Aside0.mk (counts_any A c l w hr hc)
  have HSM := Aside0.mk (cnt_sized hs)
  have HLN : Aside0 ((cntF [] l).length ≤ 100000) := ⟨by have := cnt_len l; omega⟩
  obtain ⟨res, hres⟩ : ∃ res, res = joinL l := ⟨_, rfl⟩
  rw [← hres]
  unfold joinL at hres
  obtain ⟨M, hM⟩ : ∃ M, M = cntF [] l := ⟨_, rfl⟩
  rw [← hM] at HCN HSM HLN hres
  have HRES := Aside0.mk hres
  clear hr hc hs hl hM hres
  go_enter Tryd.func14, Tryd.ntmps14
  go_wp2_with fail
  refine HCN.out.mono ?_
  rintro e w1 ⟨r, rfl, hm1, hr1, hb1⟩
  have HM1 := Aside0.mk hm1
  have HB1 := Aside0.mk hb1
  have HSO := Aside0.mk (sortedC_any r M w1 hm1 (by have := HLN.out; omega) HSM.out)
  clear hm1 hb1
  go_wp2_with fail
  refine (keysC_any r w1).mono ?_
  rintro e w2 ⟨rfl, rfl⟩
  go_wp2_with fail
  refine HSO.out.mono ?_
  rintro e w3 ⟨v3, rfl, hR3, hb3⟩
  obtain ⟨A3, c3, rfl, hc3, hr3⟩ := Kd.R_reads hR3
  have HB3 := Aside0.mk (HB1.out.trans (hb3.mono HB1.out.size))
  have HM3 := Aside0.mk (HM1.out.keep (hb3.block _ HM1.out.lt))
  obtain ⟨K, hK⟩ : ∃ K, K = keysC M := ⟨_, rfl⟩
  have hKL : K.length ≤ 100000 := by rw [hK, keys_len]; exact HLN.out
  have hK2 : sortedT (M.map (·.1)) = K := hK.symm
  rw [hK2] at hc3 hr3 ⊢
  rw [← hK] at HRES
  have HR3 := Aside0.mk hr3
  have HC3 := Aside0.mk hc3
  clear hR3 hb3 hr3 hc3 hK hK2 HSO HCN
  go_wp2_with fail
  go_loopg [4, 13] (K.length + 1) (fun kq vo v wr => ∃ i : Nat, v = .int .i64 i ∧ i ≤ K.length ∧ K.length < i + kq ∧ Aside0 (Kd.R k38 38 wr w3.heap.size (fun _ => True) vo ((K.take i).map (lotOf M))) ∧ Aside0 (Below w3.heap.size w3 wr))
  case atStart => exact ⟨0, rfl, Nat.zero_le _, by omega, ⟨Kd.R_nil _ _ _ _ _⟩, ⟨Below.refl _ _⟩⟩
  case round =>
    obtain ⟨i, rfl, hi, hk, HO, HB⟩ := hrel
    have HBT := Aside0.mk (HB3.out.trans (HB.out.mono HB3.out.size))
    by_cases hlt : i < K.length
    · obtain ⟨ad, rfl, hx⟩ := Kd.at_string (Kd.C_below HR3.out HB.out) (i : Int) (by omega) (by omega)
      rw [Int.toNat_natCast] at hx
      have hdr := rd_text hlt
      obtain ⟨k, hkk⟩ : ∃ k, k = rdOf ByteArray.empty K (i : Int) := ⟨_, rfl⟩
      rw [← hkk] at hx hdr
      have hgt : K[i]? = some k := by
        have := congrArg List.head? hdr
        simpa [List.head?_drop] using this
      have HTK : Aside0 ((K.take (i + 1)).map (lotOf M) = (K.take i).map (lotOf M) ++ [lotOf M k]) := ⟨by rw [List.take_add_one, hgt]; simp⟩
      have hlk := clook_any (HM3.out.keep (HB.out.block _ HM3.out.lt)) k
      have hic : i < c3 := by have := HC3.out; omega
      have HLT : Aside0 (((K.take i).map (lotOf M)).length ≤ 100000) := ⟨by rw [List.length_map]; have := List.length_take_le i K; omega⟩
      have HW3 := Aside0.mk HB.out.size
      clear hdr hgt hkk
      obtain ⟨n, hn⟩ : ∃ n, n = cget M k := ⟨_, rfl⟩
      have HLO : Aside0 (lotOf M k = ⟨k, n⟩) := ⟨by rw [hn]; rfl⟩
      rw [← hn] at hlk
      clear hn
      go_wp2_with ((with_reducible refine gate_builtin (b := .append) (xs := #[.tmp 17, .tmp 23]) rfl ?_); at_builtin; refine Kd.R_append k38 (w0 := w3) w3.heap.size rfl (.tmp 17) (.tmp 23) 25 38 (.agg #[(.string ⟨#[]⟩), (.int .i64 0)]) 24 rfl Tryd.underlying25 infoL rfl (by decide) (by omega) _ _ (⟨k, n⟩ : S38) [.string k, .int .i64 n] (fun _ => True) (fun _ => False) rfl rfl ?aP (fun _ hk => hk.elim) (fun _ _ => trivial) HO.out ?aB ?aS ?aL ?_; (case aP => exact k38_mkM _ _ _ ⟨k, n⟩); (case aB => exact HB.out); (case aS => exact HW3.out); (case aL => have := HLT.out; omega); intro v9 w9 ho9 hb9 hg9 hat9; have HO9 := Aside0.mk ho9; have HB9 := Aside0.mk hb9; clear ho9 hb9 hg9 hat9)
      clear hlk
      go_roundg (gk - 1)
      case measure => omega
      case rel => exact ⟨i + 1, by go_num, by omega, by omega, ⟨by rw [HTK.out, HLO.out]; exact HO9.out⟩, HB9⟩
    · obtain rfl : i = K.length := by omega
      have HF : Aside0 (Kd.R k38 38 wr w.heap.size (fun _ => True) u4 res) := ⟨by
        have h := HO.out
        rw [List.take_length, ← HRES.out] at h
        exact Kd.R_lower h HB3.out.size⟩
      go_wp2
      go_ret
      exact ⟨_, rfl, HF.out, HBT.out⟩
end Go.Proofs.YtnhbbfbllkefcaaDoor
