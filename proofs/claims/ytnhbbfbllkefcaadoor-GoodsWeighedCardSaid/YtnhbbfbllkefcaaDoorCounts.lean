/- Lots counted by their goods: the map of what there is of each. Conditions: rows as a machine can hold. -/
import Derived.Test.YtnhbbfbllkefcaaDoorWeigh
set_option linter.unusedVariables false
set_option linter.unusedSimpArgs false
set_option linter.unusedSectionVars false
namespace Go.Proofs.YtnhbbfbllkefcaaDoor
open Go.RowKit Go.Proofs.YtnhbbfbllkefcaaDoorW.PrintWords Go.Proofs.YtnhbbfbllkefcaaDoorW.PrintLast Go.Proofs.YtnhbbfbllkefcaaDoorW.PrintMore
open Q

def cE (p : ByteArray × Int) : ByteArray × Value := (p.1, .int .i64 p.2)
def cget : List (ByteArray × Int) → ByteArray → Int
  | [], _ => 0
  | p :: M, k => if k = p.1 then p.2 else cget M k
def cput : List (ByteArray × Int) → ByteArray → Int → List (ByteArray × Int)
  | [], k, n => [(k, n)]
  | p :: M, k, n => if k = p.1 then (p.1, n) :: M else p :: cput M k n
theorem mput_cons (p : ByteArray × Value) (l : List (ByteArray × Value)) (k : ByteArray) (v : Value) : mput (p :: l) k v = if k = p.1 then (p.1, v) :: l else p :: mput l k v := by
  unfold mput
  by_cases h : k = p.1
  · rw [if_pos h]
    unfold seek
    rw [if_pos h]
    rfl
  · rw [if_neg h]
    have hs : seek k (p :: l) 0 = seek k l 1 := by
      conv => lhs; unfold seek
      rw [if_neg h]
    have h1 := seek_shift k l 0 1
    rw [Nat.zero_add] at h1
    rw [hs, h1]
    cases hq : seek k l 0 with
    | none => rfl
    | some q => rfl
theorem mput_c (k : ByteArray) (n : Int) : ∀ M : List (ByteArray × Int), mput (M.map cE) k (.int .i64 n) = (cput M k n).map cE
  | [] => rfl
  | p :: M => by
    have e : cput (p :: M) k n = if k = p.1 then (p.1, n) :: M else p :: cput M k n := rfl
    rw [List.map_cons, mput_cons, mput_c k n M, e]
    by_cases h : k = p.1
    · rw [if_pos (by exact h), if_pos h]; rfl
    · rw [if_neg (by exact h), if_neg h]; rfl
theorem mget_cons (p : ByteArray × Value) (l : List (ByteArray × Value)) (k : ByteArray) : mget (p :: l) k = if k = p.1 then some p.2 else mget l k := by
  unfold mget
  by_cases h : k = p.1
  · rw [if_pos h]
    unfold seek
    rw [if_pos h]
    rfl
  · rw [if_neg h]
    have hs : seek k (p :: l) 0 = seek k l 1 := by
      conv => lhs; unfold seek
      rw [if_neg h]
    have h1 := seek_shift k l 0 1
    rw [Nat.zero_add] at h1
    rw [hs, h1]
    cases hq : seek k l 0 with
    | none => rfl
    | some q => rfl
theorem mget_c (k : ByteArray) : ∀ M : List (ByteArray × Int), (mget (M.map cE) k = none ∧ cget M k = 0) ∨ mget (M.map cE) k = some (.int .i64 (cget M k))
  | [] => .inl ⟨rfl, rfl⟩
  | p :: M => by
    rw [List.map_cons, mget_cons]
    unfold cget
    by_cases h : k = p.1
    · rw [if_pos (by exact h), if_pos h]; exact .inr rfl
    · rw [if_neg (by exact h), if_neg h]; exact mget_c k M
theorem zero3 (w : World) : (zeroValue 3).run Tryd.prog w = .ok (.int .i64 0) w := by kernel_rfl
theorem clook_any {w : World} {r : Nat} {M : List (ByteArray × Int)} (h : MapAt Value.string w r (M.map cE)) (k : ByteArray) : (Instr.lookup 60 (.map (some r)) (.string k) false).run Tryd.prog w = .ok (.int .i64 (cget M k)) w := by
  rcases mget_c k M with ⟨h1, h2⟩ | h1
  · have := run_lookup_miss (P := Tryd.prog) (strKey Tryd.underlying9) Tryd.underlying60 h k h1 (zero3 w) false
    rw [h2]
    simpa using this
  · have := run_lookup_hit (P := Tryd.prog) (strKey Tryd.underlying9) Tryd.underlying60 h k _ h1 false
    simpa using this
/-- What there is of each good. -/
def cntF : List (ByteArray × Int) → List S38 → List (ByteArray × Int)
  | M, [] => M
  | M, x :: l => if 0 < x.f1 then cntF (cput M x.f0 (wrap64 (cget M x.f0 + x.f1))) l else cntF M l

set_option maxRecDepth 100000 in
theorem counts_any (A : Option Addr) (c : Nat) (l : List S38) (w : World) (hr : Kd.C k38 w A l.length l) (hc : l.length ≤ c) :
    Calls Tryd.prog 27 #[.slice A l.length c] w fun e w' => ∃ r, e = .returned (.map (some r)) ∧ MapAt Value.string w' r ((cntF [] l).map cE) ∧ w.heap.size ≤ r ∧ Below w.heap.size w w' := by
  have hu38 := Tryd.underlying38
  have hmm := @run_makeMap Tryd.prog
  have HR := Aside0.mk hr
  have HC := Aside0.mk hc
  have hl48 : l.length ≤ maxLen := hr.2.1
  unfold maxLen at hl48
  have HM := Aside0.mk (MapAt.made Value.string w)
  have HB := Aside0.mk ((Below.refl w.heap.size w).alloc (Nat.le_refl _) (.map #[] 0))
  obtain ⟨r, hrr⟩ : ∃ r, r = w.heap.size := ⟨_, rfl⟩
  have HGR : Aside0 (w.heap.size ≤ r) := ⟨by omega⟩
  rw [← hrr] at HM
  obtain ⟨res, hres⟩ : ∃ res, res = cntF [] l := ⟨_, rfl⟩
  rw [← hres]
  have HRES := Aside0.mk hres
  clear hr hc hres
  go_enter Tryd.func27, Tryd.ntmps27
  go_wp2_with fail
  rw [← hrr]
  clear hrr
  go_loopg [9] (l.length + 1) (fun kq v wr => ∃ (i : Nat) (M : List (ByteArray × Int)), v = .int .i64 i ∧ i ≤ l.length ∧ l.length < i + kq ∧ Aside0 (cntF M (l.drop i) = res) ∧ Aside0 (MapAt Value.string wr r (M.map cE)) ∧ Aside0 (Below w.heap.size w wr))
  case atStart => exact ⟨0, [], rfl, Nat.zero_le _, by omega, ⟨by rw [HRES.out]; rfl⟩, HM, HB⟩
  case round =>
    clear HM HB
    obtain ⟨i, M, rfl, hi, hk, HI, HM, HB⟩ := hrel
    by_cases hlt : i < l.length
    · obtain ⟨ad, rfl, y0, y1⟩ := at_T38 (Kd.C_below HR.out HB.out) (i : Int) (by omega) (by omega)
      rw [Int.toNat_natCast] at y0 y1
      have hdr := rd_L hlt
      obtain ⟨x, hx⟩ : ∃ x, x = rd_T38 l (i : Int) := ⟨_, rfl⟩
      rw [← hx] at y0 y1 hdr
      have HST : Aside0 ((if 0 < x.f1 then cntF (cput M x.f0 (wrap64 (cget M x.f0 + x.f1))) (l.drop (i + 1)) else cntF M (l.drop (i + 1))) = res) := ⟨by rw [← HI.out, hdr, cntF]⟩
      have hic : i < c := by have := HC.out; omega
      have HBA : Below wr.heap.size wr (wr.alloc (lO x)) := (Below.refl wr.heap.size wr).alloc (Nat.le_refl _) (lO x)
      have HM1 := HM.out.alloc (lO x)
      have hlk := clook_any HM1 x.f0
      obtain ⟨hx0, hx1⟩ := l_cells (heap_alloc_new wr (lO x))
      have HB1 : Aside0 (Below w.heap.size w (wr.alloc (lO x))) := ⟨HB.out.trans (HBA.mono HB.out.size)⟩
      obtain ⟨w', hup, hm', ht'⟩ := run_update (P := Tryd.prog) (strKey Tryd.underlying9) Tryd.underlying60 HM1 x.f0 (.int .i64 (wrap64 (cget M x.f0 + x.f1)))
      rw [mput_c] at hm'
      have HM2 := Aside0.mk hm'
      have HB2 : Aside0 (Below w.heap.size w w') := ⟨HB1.out.trans (ht'.below HGR.out)⟩
      have HM1 := Aside0.mk HM1
      clear hdr hx hm' ht' HBA
      obtain ⟨f0, f1⟩ := x
      dsimp only [lO] at y0 y1 hlk hx0 hx1 hup HST HM1 HM2 HB1
      by_cases hpos : 0 < f1
      · generalize hn : cget M f0 = n at hlk hup HST HM2
        clear hn
        go_wp2
        go_roundg (gk - 1)
        case measure => omega
        case rel => exact ⟨i + 1, _, rfl, by omega, by omega, ⟨by rw [if_pos hpos] at HST; exact HST.out⟩, HM2, HB2⟩
      · clear hlk hup
        go_wp2
        go_roundg (gk - 1)
        case measure => omega
        case rel => exact ⟨i + 1, M, rfl, by omega, by omega, ⟨by rw [if_neg (by omega)] at HST; exact HST.out⟩, HM1, HB1⟩
    · obtain rfl : i = l.length := by omega
      have HE : Aside0 (M = res) := ⟨by rw [← HI.out, List.drop_length]; rfl⟩
      go_wp2
      go_ret
      exact ⟨r, rfl, by rw [← HE.out]; exact HM.out, HGR.out, HB.out⟩
end Go.Proofs.YtnhbbfbllkefcaaDoor
