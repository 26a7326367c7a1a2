/- Maps of a run as lists of keys and values: what a look-up, a store, a range's step come to. Conditions: the keys' type compares as its values do. -/
import Derived.WalkKit
import Derived.MapKept
import Derived.Maps.RangeWalk
import Derived.Deep.Draws
import Derived.Deep.Quiet
set_option linter.unusedVariables false
set_option linter.unusedSimpArgs false
set_option linter.unusedSectionVars false
namespace Go.Proofs.YtnhbbfbllkefcaaDoor
open Go.RowKit

section
variable {P : Program} {K : Type} [DecidableEq K]

/-- The first entry of a key: its place, its value. -/
def seek (x : K) : List (K × Value) → Nat → Option (Nat × Value)
  | [], _ => none
  | p :: l, i => if x = p.1 then some (i, p.2) else seek x l (i + 1)

def mget (l : List (K × Value)) (x : K) : Option Value := (seek x l 0).map (·.2)

def mput (l : List (K × Value)) (x : K) (v : Value) : List (K × Value) :=
  match seek x l 0 with
  | some (i, _) => l.modify i fun p => (p.1, v)
  | none => l ++ [(x, v)]

theorem seek_shift (x : K) (l : List (K × Value)) : ∀ i j, seek x l (i + j) = (seek x l i).map fun q => (q.1 + j, q.2) := by
  induction l with
  | nil => intro i j; rfl
  | cons p l ih =>
    intro i j
    unfold seek
    split
    · rfl
    · have := ih (i + 1) j
      rw [show i + 1 + j = i + j + 1 by omega] at this
      exact this

/-- What is found stands there. -/
theorem seek_spec (x : K) (l : List (K × Value)) : ∀ i n v, seek x l i = some (n, v) → i ≤ n ∧ l[n - i]? = some (x, v) := by
  induction l with
  | nil => intro i n v h; simp [seek] at h
  | cons p l ih =>
    intro i n v h
    unfold seek at h
    split at h
    · rename_i hx
      simp only [Option.some.injEq, Prod.mk.injEq] at h
      obtain ⟨rfl, rfl⟩ := h
      refine ⟨Nat.le_refl _, ?_⟩
      simp [hx]
    · obtain ⟨h1, h2⟩ := ih _ _ _ h
      refine ⟨by omega, ?_⟩
      rw [show n - i = (n - (i + 1)) + 1 by omega]
      simpa using h2

theorem seek_none (x : K) (l : List (K × Value)) : ∀ i, seek x l i = none ↔ ∀ p ∈ l, p.1 ≠ x := by
  induction l with
  | nil => intro i; simp [seek]
  | cons p l ih =>
    intro i
    unfold seek
    split
    · rename_i hx
      simp [hx]
    · rename_i hx
      rw [ih]
      simp [Ne.symm hx]

/-- THE KEYS' TYPE: what the model asks of a key when it looks for it. -/
structure KeyTy (P : Program) (kt : TypeId) (enc : K → Value) : Prop where
  check : ∀ (x : K) (b : Bool) (w : World), (Instr.checkKey b 10000 kt (enc x)).run P w = .ok () w
  find : ∀ (x : K) (l : List (K × Value)) (es : List MapEntry), es.map (fun e => (e.key, e.val)) = l.map (fun p => (enc p.1, p.2)) → ∀ w, (Instr.findKey kt (enc x) es).run P w = .ok (seek x l 0) w
  same : ∀ x, Instr.sameBits 10000 (enc x) (enc x) = true

/-- Stamps below the clock, each once. -/
def Born (es : Array MapEntry) (clock : Nat) : Prop := (∀ x ∈ es.toList, x.born < clock) ∧ (es.toList.map (·.born)).Nodup

/-- BLOCK r OF w IS A MAP: of just these keys and values, in this order of birth, each key once. -/
def MapAt (enc : K → Value) (w : World) (r : Nat) (l : List (K × Value)) : Prop :=
  ∃ es clock, w.heap[r]? = some (.map es clock) ∧ Born es clock ∧ es.toList.map (fun e => (e.key, e.val)) = l.map (fun p => (enc p.1, p.2)) ∧ (l.map (·.1)).Nodup

variable {enc : K → Value} {w : World} {r : Nat} {l : List (K × Value)} {kt et t : TypeId}

theorem MapAt.lt (h : MapAt enc w r l) : r < w.heap.size := by
  obtain ⟨es, clock, hb, _⟩ := h
  exact (Array.getElem?_eq_some_iff.1 hb).1
theorem MapAt.nodup (h : MapAt enc w r l) : (l.map (·.1)).Nodup := by
  obtain ⟨es, clock, hb, _, _, hn⟩ := h
  exact hn
theorem MapAt.keep (h : MapAt enc w r l) {w' : World} (hk : w'.heap[r]? = w.heap[r]?) : MapAt enc w' r l := by
  obtain ⟨es, clock, hb, rest⟩ := h
  exact ⟨es, clock, hk.trans hb, rest⟩
theorem MapAt.alloc (h : MapAt enc w r l) (o : Obj) : MapAt enc (w.alloc o) r l := h.keep (Below.heap_alloc w o r h.lt)
theorem MapAt.drew (h : MapAt enc w r l) : MapAt enc w.drew r l := h
theorem MapAt.drewN (h : MapAt enc w r l) (n : Nat) : MapAt enc (w.drewN n) r l := h.keep rfl
theorem MapAt.setCell (h : MapAt enc w r l) (a : Addr) (v : Value) (hne : r ≠ a.block) : MapAt enc (w.setCell a v) r l := h.keep (Below.heap_setCell w a v r hne)
theorem MapAt.made (enc : K → Value) (w : World) : MapAt enc (w.alloc (.map #[] 0)) w.heap.size [] :=
  ⟨#[], 0, heap_alloc_new w _, ⟨by simp, by simp⟩, by simp, by simp⟩

theorem underlying_run {d : TypeDesc} (ht : P.underlying t = some d) (w : World) : (underlying t).run P w = .ok d w := run_underlying ht w

theorem run_lookup_hit (Kt : KeyTy P kt enc) (ht : P.underlying t = some (.map kt et)) (h : MapAt enc w r l) (x : K) (v : Value) (hx : mget l x = some v) (ok : Bool) :
    (Instr.lookup t (.map (some r)) (enc x) ok).run P w = .ok (if ok then .tuple #[v, .bool true] else v) w := by
  obtain ⟨es, clock, hb, _, hl, _⟩ := h
  have hf := Kt.find x l es.toList hl w
  unfold mget at hx
  cases hs : seek x l 0 with
  | none => rw [hs] at hx; simp at hx
  | some q =>
    rw [hs] at hf hx
    simp only [Option.map_some, Option.some.injEq] at hx
    subst hx
    simp [Instr.lookup, run_underlying ht, MapKept.run_getObj_map hb, Kt.check, hf]

theorem run_lookup_miss (Kt : KeyTy P kt enc) (ht : P.underlying t = some (.map kt et)) (h : MapAt enc w r l) (x : K) (hx : mget l x = none) {z : Value} (hz : (zeroValue et).run P w = .ok z w) (ok : Bool) :
    (Instr.lookup t (.map (some r)) (enc x) ok).run P w = .ok (if ok then .tuple #[z, .bool false] else z) w := by
  obtain ⟨es, clock, hb, _, hl, _⟩ := h
  have hf := Kt.find x l es.toList hl w
  unfold mget at hx
  cases hs : seek x l 0 with
  | some q => rw [hs] at hx; simp at hx
  | none =>
    rw [hs] at hf
    simp [Instr.lookup, run_underlying ht, MapKept.run_getObj_map hb, Kt.check, hf, hz]

/-- What a store makes of the world: block r alone has turned. -/
structure Turned (r : Nat) (w w' : World) : Prop where
  os : w'.os = w.os
  tape : w'.tape = w.tape
  output : w'.output = w.output
  size : w'.heap.size = w.heap.size
  block : ∀ k, k ≠ r → w'.heap[k]? = w.heap[k]?

theorem Turned.grownBy {w w' : World} (h : Turned r w w') : w.grownBy w' (some r) :=
  ⟨h.os, h.tape, h.output, Nat.le_of_eq h.size.symm, fun k _ hk => h.block k (fun e => hk (by rw [e]))⟩
theorem Turned.below {B : Nat} {w w' : World} (h : Turned r w w') (hr : B ≤ r) : Below B w w' :=
  ⟨h.os, h.tape, h.output, Nat.le_of_eq h.size.symm, fun k hk => h.block k (by omega)⟩

theorem turned_set (w : World) (r : Nat) (o : Obj) : Turned r w { w with heap := w.heap.setIfInBounds r o } :=
  ⟨rfl, rfl, rfl, by simp, fun k hk => by
    show (w.heap.setIfInBounds r o)[k]? = _
    rw [Array.getElem?_setIfInBounds_ne (Ne.symm hk)]⟩

theorem map_modify {α β : Type} (f : α → β) (g : α → α) (g' : β → β) (i : Nat) : ∀ (l : List α), (∀ x, l[i]? = some x → f (g x) = g' (f x)) → (l.modify i g).map f = (l.map f).modify i g' := by
  intro l h
  apply List.ext_getElem?
  intro j
  simp only [List.getElem?_map, List.getElem?_modify]
  by_cases hij : i = j
  · subst hij
    cases hl : l[i]? with
    | none => simp
    | some x => simp [h x hl]
  · simp [hij]

theorem born_set {es : Array MapEntry} {clock : Nat} (h : Born es clock) (i : Nat) (f : MapEntry → MapEntry) (hf : ∀ e, (f e).born = e.born) : Born (es.modify i f) clock := by
  have hborn : (es.modify i f).toList.map (·.born) = es.toList.map (·.born) := by
    apply List.ext_getElem?
    intro j
    simp only [List.getElem?_map, Array.getElem?_toList, Array.getElem?_modify]
    by_cases hij : i = j
    · subst hij
      cases he : es[i]? with
      | none => simp
      | some e => simp [hf]
    · simp [hij]
  refine ⟨?_, hborn ▸ h.2⟩
  intro x hx
  have : x.born ∈ (es.modify i f).toList.map (·.born) := List.mem_map.2 ⟨x, hx, rfl⟩
  rw [hborn] at this
  obtain ⟨y, hy, e⟩ := List.mem_map.1 this
  rw [← e]; exact h.1 y hy

theorem born_push {es : Array MapEntry} {clock : Nat} (h : Born es clock) (key val : Value) : Born (es.push { key, val, born := clock }) (clock + 1) := by
  obtain ⟨h1, h2⟩ := h
  refine ⟨?_, ?_⟩
  · intro x hx
    simp only [Array.toList_push, List.mem_append, List.mem_singleton] at hx
    rcases hx with hx | rfl
    · exact Nat.lt_succ_of_lt (h1 x hx)
    · exact Nat.lt_succ_self _
  · simp only [Array.toList_push, List.map_append, List.map_cons, List.map_nil]
    refine List.nodup_append.2 ⟨h2, by simp, ?_⟩
    intro a ha b hb
    simp only [List.mem_singleton] at hb
    subst hb
    obtain ⟨x, hx, rfl⟩ := List.mem_map.1 ha
    exact Nat.ne_of_lt (h1 x hx)

theorem mput_keys (l : List (K × Value)) (x : K) (v : Value) : (mput l x v).map (·.1) = if (mget l x).isSome then l.map (·.1) else l.map (·.1) ++ [x] := by
  unfold mput mget
  cases hs : seek x l 0 with
  | none => simp
  | some q =>
    obtain ⟨i, u⟩ := q
    simp only [Option.map_some, Option.isSome_some, if_true]
    rw [map_modify (f := fun p : K × Value => p.1) (g := fun p => (p.1, v)) (g' := id) i l (fun x _ => rfl)]
    apply List.ext_getElem?
    intro j
    simp [List.getElem?_modify]

theorem mput_nodup (l : List (K × Value)) (x : K) (v : Value) (h : (l.map (·.1)).Nodup) : ((mput l x v).map (·.1)).Nodup := by
  rw [mput_keys]
  split
  · exact h
  · rename_i hn
    refine List.nodup_append.2 ⟨h, by simp, ?_⟩
    intro a ha b hb e
    simp only [List.mem_singleton] at hb
    subst hb; subst e
    have : mget l a = none := by simpa using hn
    unfold mget at this
    have h2 := (seek_none a l 0).1 (by simpa using this)
    obtain ⟨p, hp, rfl⟩ := List.mem_map.1 ha
    exact h2 p hp rfl

theorem run_update (Kt : KeyTy P kt enc) (ht : P.underlying t = some (.map kt et)) (h : MapAt enc w r l) (x : K) (v : Value) :
    ∃ w', (Instr.mapUpdate t (.map (some r)) (enc x) v).run P w = .ok () w' ∧ MapAt enc w' r (mput l x v) ∧ Turned r w w' := by
  have hlt := h.lt
  have hnd := h.nodup
  obtain ⟨es, clock, hb, hborn, hl, _⟩ := h
  have hf := Kt.find x l es.toList hl w
  cases hs : seek x l 0 with
  | none =>
    rw [hs] at hf
    refine ⟨{ w with heap := w.heap.setIfInBounds r (.map (es.push { key := enc x, val := v, born := clock }) (clock + 1)) }, ?_, ?_, turned_set w r _⟩
    · simp [Instr.mapUpdate, run_underlying ht, MapKept.run_getObj_map hb, Kt.check, hf, MapKept.run_setObj_map _ hb]
    · refine ⟨_, _, ?_, born_push hborn (enc x) v, ?_, mput_nodup l x v hnd⟩
      · show (w.heap.setIfInBounds r _)[r]? = _
        rw [Array.getElem?_setIfInBounds_self_of_lt hlt]
      · simp [mput, hs, hl]
  | some q =>
    obtain ⟨i, u⟩ := q
    rw [hs] at hf
    obtain ⟨_, hi⟩ := seek_spec x l 0 i u hs
    rw [Nat.sub_zero] at hi
    have hei : ∃ e, es[i]? = some e ∧ e.key = enc x ∧ e.val = u := by
      have := congrArg (fun m => m[i]?) hl
      simp only [List.getElem?_map, hi, Option.map_some, Array.getElem?_toList] at this
      cases he : es[i]? with
      | none => rw [he] at this; simp at this
      | some e =>
        rw [he] at this
        simp at this
        exact ⟨e, rfl, this.1, this.2⟩
    obtain ⟨e0, he0, hk0, hv0⟩ := hei
    refine ⟨{ w with heap := w.heap.setIfInBounds r (.map (es.modify i fun e => { e with key := enc x, val := v }) clock) }, ?_, ?_, turned_set w r _⟩
    · simp [Instr.mapUpdate, run_underlying ht, MapKept.run_getObj_map hb, Kt.check, hf, MapKept.run_setObj_map _ hb, Instr.keyThatStays, he0, hk0, Kt.same]
    · refine ⟨_, _, ?_, born_set hborn i (fun e => { e with key := enc x, val := v }) (fun e => rfl), ?_, mput_nodup l x v hnd⟩
      · show (w.heap.setIfInBounds r _)[r]? = _
        rw [Array.getElem?_setIfInBounds_self_of_lt hlt]
      · simp only [mput, hs]
        apply List.ext_getElem?
        intro j
        have hj := congrArg (fun m => m[j]?) hl
        simp only [List.getElem?_map, Array.getElem?_toList] at hj
        simp only [List.getElem?_map, Array.getElem?_toList, Array.getElem?_modify, List.getElem?_modify]
        by_cases hij : i = j
        · subst hij
          simp [he0, hi]
        · simp [hij, hj]

/-- A WALK OVER A MAP: block 'it' is the iterator of map block r, which reads as l and is not written meanwhile; 'rest' is still to come. -/
def Ranging (enc : K → Value) (w : World) (r it : Nat) (l rest : List (K × Value)) : Prop :=
  ∃ es clock seen, w.heap[r]? = some (.map es clock) ∧ w.heap[it]? = some (.mapIter (some r) clock seen clock) ∧ Born es clock ∧
    es.toList.map (fun e => (e.key, e.val)) = l.map (fun p => (enc p.1, p.2)) ∧ (l.map (·.1)).Nodup ∧ (leftOf es seen).toList.map (fun e => (e.key, e.val)) = rest.map (fun p => (enc p.1, p.2))

theorem Ranging.map {it : Nat} {rest : List (K × Value)} (h : Ranging enc w r it l rest) : MapAt enc w r l := by
  obtain ⟨es, clock, seen, hb, hi, hborn, hl, hn, hr⟩ := h
  exact ⟨es, clock, hb, hborn, hl, hn⟩
theorem Ranging.lt {it : Nat} {rest : List (K × Value)} (h : Ranging enc w r it l rest) : it < w.heap.size := by
  obtain ⟨es, clock, seen, hb, hi, hborn, hl, hn, hr⟩ := h
  exact (Array.getElem?_eq_some_iff.1 hi).1
theorem Ranging.ne {it : Nat} {rest : List (K × Value)} (h : Ranging enc w r it l rest) : it ≠ r := by
  obtain ⟨es, clock, seen, hb, hi, hborn, hl, hn, hr⟩ := h
  rintro rfl
  rw [hb] at hi
  cases hi
theorem Ranging.keep {it : Nat} {rest : List (K × Value)} (h : Ranging enc w r it l rest) {w' : World} (hk : w'.heap[r]? = w.heap[r]?) (hk2 : w'.heap[it]? = w.heap[it]?) : Ranging enc w' r it l rest := by
  obtain ⟨es, clock, seen, hb, hi, rest⟩ := h
  exact ⟨es, clock, seen, hk.trans hb, hk2.trans hi, rest⟩

theorem run_range_at (ht : P.underlying t = some (.map kt et)) (h : MapAt enc w r l) :
    ∃ w', (Instr.range t (.map (some r))).run P w = .ok (.pointer (some ⟨w.heap.size, 0, none⟩)) w' ∧ Ranging enc w' r w.heap.size l l ∧ (∃ o, w' = w.alloc o) := by
  have hlt := h.lt
  obtain ⟨es, clock, hb, hborn, hl, hn⟩ := h
  refine ⟨_, run_range_map w t kt et r es clock ht hb, ⟨es, clock, #[], ?_, ?_, hborn, hl, hn, ?_⟩, _, rfl⟩
  · rw [heap_alloc_old w _ hlt]; exact hb
  · exact heap_alloc_new w _
  · rw [show leftOf es #[] = es by simp [leftOf]]; exact hl

theorem leftOf_push (es : Array MapEntry) (seen : Array Nat) (e : MapEntry) : (leftOf es (seen.push e.born)).toList = (leftOf es seen).toList.filter (fun x => x.born != e.born) := by
  simp only [leftOf, Array.toList_filter, List.filter_filter]
  congr 1
  funext x
  by_cases hx : x.born = e.born
  · simp [hx]
  · simp [hx]

theorem run_next_of {it : Nat} {rest : List (K × Value)} (h : Ranging enc w r it l rest) (ty : TypeId) :
    (rest = [] ∧ (Instr.next (.pointer (some ⟨it, 0, none⟩)) false ty).run P w = .ok (.tuple #[.bool false]) w) ∨
    ∃ p rest' w', rest.Perm (p :: rest') ∧ (Instr.next (.pointer (some ⟨it, 0, none⟩)) false ty).run P w = .ok (.tuple #[.bool true, enc p.1, p.2]) w' ∧ Ranging enc w' r it l rest' ∧ Turned it w w' ∧
      (∀ w'', w''.heap[r]? = w'.heap[r]? → w''.heap[it]? = w'.heap[it]? → (Instr.entry (.pointer (some ⟨it, 0, none⟩))).run P w'' = .ok (.tuple #[enc p.1, p.2]) w'') := by
  have hne := h.ne
  have hlt := h.lt
  obtain ⟨es, clock, seen, hb, hi, hborn, hl, hn, hr⟩ := h
  rcases run_next_at (P := P) w ty it r clock clock seen es clock hi hb hborn.1 (Nat.le_refl _) with ⟨h0, hrun⟩ | ⟨e, he, w1, hal, hrun⟩
  · left
    refine ⟨?_, hrun⟩
    have : (leftOf es seen).toList = [] := by
      apply List.eq_nil_of_length_eq_zero
      simpa using h0
    rw [this] at hr
    simpa using hr.symm
  · right
    have hem : e ∈ es.toList := by
      simp only [leftOf, Array.toList_filter, List.mem_filter] at he
      exact he.1
    obtain ⟨a, b, hab⟩ := List.append_of_mem he
    have hnb : ((leftOf es seen).toList.map (·.born)).Nodup := by
      simp only [leftOf, Array.toList_filter]
      exact hborn.2.sublist (List.filter_sublist.map _)
    rw [hab] at hnb hr
    simp only [List.map_append, List.map_cons] at hnb hr
    obtain ⟨ra, rb0, hrab, hra, hrb0⟩ := List.map_eq_append_iff.1 hr.symm
    obtain ⟨p, rb, rfl, hp, hrb⟩ := List.map_eq_cons_iff.1 hrb0
    have hp1 : enc p.1 = e.key ∧ p.2 = e.val := by simpa using hp
    have hfil : (leftOf es (seen.push e.born)).toList = a ++ b := by
      rw [leftOf_push, hab]
      simp only [List.filter_append, List.filter_cons, bne_self_eq_false, Bool.false_eq_true, if_false]
      have hd := List.nodup_append.1 hnb
      have hd2 := List.nodup_cons.1 hd.2.1
      congr 1
      · rw [List.filter_eq_self]
        intro x hx
        have := hd.2.2 x.born (List.mem_map.2 ⟨x, hx, rfl⟩) e.born (by simp)
        simpa using this
      · rw [List.filter_eq_self]
        intro x hx
        have : x.born ≠ e.born := fun hx' => hd2.1 (List.mem_map.2 ⟨x, hx, hx'⟩)
        simpa using this
    have hw1 : w1.heap = w.heap := by rcases hal with rfl | rfl <;> rfl
    have hT : Turned it w (Go.ChangeMaps.setBlock w1 it (.mapIter (some r) clock (seen.push e.born) clock)) := by
      rcases hal with rfl | rfl
      · exact turned_set _ it _
      · obtain ⟨h1, h2, h3, h4, h5⟩ := turned_set w it (.mapIter (some r) clock (seen.push e.born) clock)
        exact ⟨h1, h2, h3, h4, h5⟩
    have hb' : (Go.ChangeMaps.setBlock w1 it (.mapIter (some r) clock (seen.push e.born) clock)).heap[r]? = some (.map es clock) := (hT.block r (Ne.symm hne)).trans hb
    have hi' : (Go.ChangeMaps.setBlock w1 it (.mapIter (some r) clock (seen.push e.born) clock)).heap[it]? = some (.mapIter (some r) clock (seen.push e.born) clock) := by
      show (w1.heap.setIfInBounds it _)[it]? = _
      rw [hw1, Array.getElem?_setIfInBounds_self_of_lt hlt]
    refine ⟨p, ra ++ rb, _, ?_, by rw [hrun, hp1.1, hp1.2], ⟨es, clock, _, hb', hi', hborn, hl, hn, ?_⟩, hT, ?_⟩
    · rw [hrab]; exact List.perm_middle
    · rw [hfil]; simp [hra, hrb]
    · intro w'' h1 h2
      have := run_entry_at (P := P) w'' it r clock seen es clock e (h2.trans hi') (h1.trans hb') hem hborn.2
      rw [this, hp1.1, hp1.2]
end

/-! ### at the operation, for the walk -/
section
variable {P : Program} {K : Type} [DecidableEq K] {enc : K → Value} {w : World} {r : Nat} {l : List (K × Value)} {kt et t : TypeId} {ops : Array Oper} {rest : List Oper} {o : Oper} {a : Act} {Q : Exit → Act → World → Prop}
theorem wpList_update_at (hg : o.guard = none) (m x v : Operand) (t : TypeId) (hop : o.op = Op.mapUpdate t m x v) (Kt : KeyTy P kt enc) (ht : P.underlying t = some (.map kt et)) (k : K) (val : Value)
    (hm : a.eval m = .map (some r)) (hx : a.eval x = enc k) (hv : a.eval v = val) (h : MapAt enc w r l) (hK : ∀ w', MapAt enc w' r (mput l k val) → Turned r w w' → wpList P ops Q rest (a.put o.dst undef) w') : wpList P ops Q (o :: rest) a w := by
  refine wpList_plain hg fun K' hK' => ?_
  obtain ⟨w', hrun, r1, r2⟩ := run_update Kt ht h k val
  unfold Oper.wp
  simp [execOp, hop, hm, hx, hv, hrun, Result.andThen]
  exact hK' _ _ (hK w' r1 r2)
/-- .. at a step of a region that draws its order. -/
theorem step_update_at {Kc : Act → World → Prop} {Els : Prop} (hg : o.guard = none) (m x v : Operand) (t : TypeId) (hop : o.op = Op.mapUpdate t m x v) (Kt : KeyTy P kt enc) (ht : P.underlying t = some (.map kt et)) (k : K) (val : Value)
    (hm : a.eval m = .map (some r)) (hx : a.eval x = enc k) (hv : a.eval v = val) (h : MapAt enc w r l) (hK : ∀ w', MapAt enc w' r (mput l k val) → Turned r w w' → Kc (a.put o.dst undef) w') :
    if Region.wanted o (yielded ops a.tmps) = true then Oper.wp P o a w Kc Q else Els := by
  have hw : Region.wanted o (yielded ops a.tmps) = true := by simp [Region.wanted, hg]
  rw [if_pos hw]
  obtain ⟨w', hrun, r1, r2⟩ := run_update Kt ht h k val
  unfold Oper.wp
  simp [execOp, hop, hm, hx, hv, hrun, Result.andThen]
  exact hK w' r1 r2
theorem wpList_len_at (hg : o.guard = none) (m : Operand) (t : TypeId) (hop : o.op = Op.call { callee := Callee.builtin Builtin.len, args := #[m], argTypes := #[t] }) (ht : P.underlying t = some (.map kt et))
    (hm : a.eval m = .map (some r)) (h : MapAt enc w r l) (hK : wpList P ops Q rest (a.put o.dst (.int .i64 l.length)) w) : wpList P ops Q (o :: rest) a w := by
  refine wpList_plain hg fun K' hK' => ?_
  obtain ⟨es, clock, hb, _, hl, _⟩ := h
  have hsz : es.size = l.length := by
    have := congrArg List.length hl
    simpa using this
  unfold Oper.wp
  simp [execOp, hop, resolve, invoke, builtin, hm, Builtin.len_, run_underlying ht, MapKept.run_getObj_map hb, Result.andThen, goInt, hsz]
  exact hK' _ _ hK
end

/-! ### keys that are strings -/
theorem bytes_toList_inj {a b : ByteArray} (h : a.toList = b.toList) : a = b := by
  rw [ByteArray.toList_eq, ByteArray.toList_eq] at h
  obtain ⟨⟨x⟩⟩ := a
  obtain ⟨⟨y⟩⟩ := b
  simp only at h
  rw [h]
theorem bytes_beq (a b : ByteArray) : (a == b) = decide (a = b) := by
  rw [beq_toListBytes]
  by_cases h : a = b
  · subst h; simp
  · have : ¬ a.toList = b.toList := fun e => h (bytes_toList_inj e)
    simp [h, this]
theorem findNow_str (x : ByteArray) : ∀ (l : List (ByteArray × Value)) (es : List MapEntry) (i : Nat), es.map (fun e => (e.key, e.val)) = l.map (fun p => (Value.string p.1, p.2)) →
    Instr.findNow .string (.string x) es i = some (seek x l i)
  | [], [], i, _ => rfl
  | [], _ :: _, i, h => by simp at h
  | _ :: _, [], i, h => by simp at h
  | p :: l, e :: es, i, h => by
    simp only [List.map_cons, List.cons.injEq, Prod.mk.injEq] at h
    obtain ⟨⟨hk, hv⟩, ht⟩ := h
    unfold Instr.findNow seek
    rw [hk]
    simp only [Instr.sameNow]
    by_cases hx : x = p.1
    · rw [if_pos hx, bytes_beq, decide_eq_true hx, hv]
    · rw [if_neg hx, bytes_beq, decide_eq_false hx]
      exact findNow_str x l es (i + 1) ht

theorem strKey {P : Program} {kt : TypeId} (hk : P.underlying kt = some .string) : KeyTy P kt Value.string where
  check := fun x b w => MapKept.run_checkKey (d := .string) hk (by trivial) b 9999
  find := fun x l es h w => MapKept.run_findKey (d := .string) hk (findNow_str x l es 0 h)
  same := fun x => by
    show (x == x) = true
    rw [bytes_beq]
    simp
end Go.Proofs.YtnhbbfbllkefcaaDoor
