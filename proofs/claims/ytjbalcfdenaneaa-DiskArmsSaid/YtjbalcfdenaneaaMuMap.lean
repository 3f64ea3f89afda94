import Derived.Maps.RangeRun
import Derived.WalkKit
namespace Go.Proofs.Ytjbalcfdenaneaa.Mu
open Go Go.ChangeMaps
section
variable {α : Type} [DecidableEq α]

def afind (k : α) : List (α × Value) → Nat → Option (Nat × Value)
  | [], _ => none
  | p :: r, i => if p.1 = k then some (i, p.2) else afind k r (i + 1)
def aget (l : List (α × Value)) (k : α) : Option Value := (l.find? (fun p => decide (p.1 = k))).map (·.2)
def aput (l : List (α × Value)) (k : α) (v : Value) : List (α × Value) := match afind k l 0 with | some (i, _) => l.set i (k, v) | none => l ++ [(k, v)]
def adel (l : List (α × Value)) (k : α) : List (α × Value) := l.filter (fun p => decide (p.1 ≠ k))

theorem afind_spec (k : α) : ∀ (l : List (α × Value)) (i : Nat), (afind k l i = none ∧ aget l k = none ∧ ∀ p ∈ l, p.1 ≠ k) ∨ ∃ j v, afind k l i = some (i + j, v) ∧ aget l k = some v ∧ l[j]? = some (k, v) ∧ ∀ q, q < j → ∀ p, l[q]? = some p → p.1 ≠ k
  | [], _ => .inl ⟨rfl, rfl, by simp⟩
  | (k', v) :: r, i => by
    by_cases h : k' = k
    · subst h; exact .inr ⟨0, v, by simp [afind], by simp [aget], rfl, by simp⟩
    · rcases afind_spec k r (i + 1) with ⟨h1, h2, h3⟩ | ⟨j, u, h1, h2, h3, h4⟩
      · refine .inl ⟨by simp [afind, h, h1], by simpa [aget, List.find?_cons, h] using h2, ?_⟩
        intro p hp; rcases List.mem_cons.1 hp with rfl | hp
        · exact h
        · exact h3 p hp
      · refine .inr ⟨j + 1, u, by simp [afind, h, h1]; omega, by simpa [aget, List.find?_cons, h] using h2, by simpa using h3, ?_⟩
        intro q hq p hp
        cases q with
        | zero => simp at hp; subst hp; exact h
        | succ q => exact h4 q (by omega) p (by simpa using hp)

/-- how keys of one type are written, and told apart -/
structure KeyLaw (P : Program) (kt : TypeId) (d : TypeDesc) (enc : α → Value) : Prop where
  und : P.underlying kt = some d
  same : ∀ a b, Instr.sameNow d (enc a) (enc b) = some (decide (a = b))
  check : ∀ (e : Bool) a w, (Instr.checkKey e 10000 kt (enc a)).run P w = .ok () w
  bits : ∀ a, Instr.sameBits 10000 (enc a) (enc a) = true

variable {P : Program} {kt et t : TypeId} {d : TypeDesc} {enc : α → Value}

theorem findNow_enc (K : KeyLaw P kt d enc) (k : α) : ∀ (l : List (α × Value)) (es : List MapEntry) (i : Nat), es.map (fun e => (e.key, e.val)) = l.map (fun p => (enc p.1, p.2)) →
    Instr.findNow d (enc k) es i = some (afind k l i)
  | [], es, i, h => by cases es <;> simp_all [Instr.findNow, afind]
  | p :: l, es, i, h => by
    cases es with
    | nil => simp at h
    | cons e es =>
      simp only [List.map_cons, List.cons.injEq, Prod.mk.injEq] at h
      obtain ⟨⟨h1, h2⟩, h3⟩ := h
      simp only [Instr.findNow, h1, K.same, afind]
      by_cases hk : k = p.1
      · simp [hk, h2]
      · have hk' : ¬ p.1 = k := fun h => hk h.symm
        simp only [hk, decide_false, hk', if_false]
        exact findNow_enc K k l es (i + 1) h3

theorem run_findKey_enc (K : KeyLaw P kt d enc) (k : α) (l : List (α × Value)) (es : List MapEntry) (h : es.map (fun e => (e.key, e.val)) = l.map (fun p => (enc p.1, p.2))) (w : World) :
    (Instr.findKey kt (enc k) es).run P w = .ok (afind k l 0) w := by
  simp [Instr.findKey, run_underlying K.und, Result.andThen, findNow_enc K k l es 0 h]

/-- the block holds a map: these keys, these values -/
def MapAt (enc : α → Value) (o : Obj) (l : List (α × Value)) : Prop :=
  ∃ es clock, o = .map es clock ∧ es.toList.map (fun e => (e.key, e.val)) = l.map (fun p => (enc p.1, p.2)) ∧ (es.toList.map (·.born)).Nodup ∧ (∀ e ∈ es.toList, e.born < clock) ∧ (l.map (·.1)).Nodup

omit [DecidableEq α] in
theorem MapAt.nil (enc : α → Value) : MapAt enc (.map #[] 0) [] := ⟨#[], 0, rfl, rfl, by simp, by simp, by simp⟩

omit [DecidableEq α] in
theorem MapAt.size {o : Obj} {l : List (α × Value)} (h : MapAt enc o l) : ∃ es c, o = .map es c ∧ es.size = l.length := by
  obtain ⟨es, c, rfl, h1, _⟩ := h
  exact ⟨es, c, rfl, by have := congrArg List.length h1; simpa using this⟩

theorem run_lookup_at (K : KeyLaw P kt d enc) (ht : P.underlying t = some (.map kt et)) {z : Value} {w : World} (hz : (zeroValue et).run P w = .ok z w) {m : Nat} {o : Obj} {l : List (α × Value)} (hm : w.heap[m]? = some o) (h : MapAt enc o l) (k : α) :
    (Instr.lookup t (.map (some m)) (enc k) false).run P w = .ok ((aget l k).getD z) w := by
  obtain ⟨es, c, rfl, h1, _⟩ := h
  rcases afind_spec k l 0 with ⟨a1, a2, _⟩ | ⟨j, v, a1, a2, _⟩ <;>
    simp [Instr.lookup, run_underlying ht, MapKept.run_getObj_map hm, K.check, run_findKey_enc K k l es.toList h1, a1, a2, hz, Result.andThen]

theorem run_lookup_ok_at (K : KeyLaw P kt d enc) (ht : P.underlying t = some (.map kt et)) {z : Value} {w : World} (hz : (zeroValue et).run P w = .ok z w) {m : Nat} {o : Obj} {l : List (α × Value)} (hm : w.heap[m]? = some o) (h : MapAt enc o l) (k : α) :
    (Instr.lookup t (.map (some m)) (enc k) true).run P w = .ok (.tuple #[(aget l k).getD z, .bool (aget l k).isSome]) w := by
  obtain ⟨es, c, rfl, h1, _⟩ := h
  rcases afind_spec k l 0 with ⟨a1, a2, _⟩ | ⟨j, v, a1, a2, _⟩ <;>
    simp [Instr.lookup, run_underlying ht, MapKept.run_getObj_map hm, K.check, run_findKey_enc K k l es.toList h1, a1, a2, hz, Result.andThen]

omit [DecidableEq α] in
theorem run_len_at (ht : P.underlying t = some (.map kt et)) {ty : TypeId} {w : World} {m : Nat} {o : Obj} {l : List (α × Value)} (hm : w.heap[m]? = some o) (h : MapAt enc o l) :
    (Builtin.len_ #[t] ty #[.map (some m)]).run P w = .ok (.int .i64 l.length) w := by
  obtain ⟨es, c, rfl, hs⟩ := h.size
  simp [Builtin.len_, run_underlying ht, MapKept.run_getObj_map hm, Result.andThen, goInt, hs]

theorem run_setObj_map {w : World} {m : Nat} {es : Array MapEntry} {c : Nat} (hm : w.heap[m]? = some (.map es c)) (o' : Obj) : (setObj m o').run P w = .ok () (setBlock w m o') := by
  simp [setObj, Sem.run, hm, setBlock]

theorem nodup_keys_aput {l : List (α × Value)} (h : (l.map (·.1)).Nodup) (k : α) (v : Value) : ((aput l k v).map (·.1)).Nodup := by
  unfold aput
  rcases afind_spec k l 0 with ⟨a1, _, a3⟩ | ⟨j, u, a1, _, a3, _⟩
  · simp only [a1, List.map_append, List.map_cons, List.map_nil]
    rw [List.nodup_append]
    refine ⟨h, by simp, ?_⟩
    intro x hx y hy
    simp at hy; subst hy
    obtain ⟨p, hp, rfl⟩ := List.mem_map.1 hx
    exact a3 p hp
  · simp only [a1, Nat.zero_add]
    have : (l.set j (k, v)).map (·.1) = l.map (·.1) := by
      apply List.ext_getElem?
      intro i
      simp only [List.getElem?_map, List.getElem?_set]
      by_cases hij : j = i
      · subst hij
        have hj : j < l.length := (List.getElem?_eq_some_iff.1 a3).1
        have e := List.getElem?_eq_getElem hj ▸ a3
        simp at e
        simp [hj, e]
      · simp [hij]
    rw [this]; exact h

theorem run_mapUpdate_at (K : KeyLaw P kt d enc) (ht : P.underlying t = some (.map kt et)) {w : World} {m : Nat} {o : Obj} {l : List (α × Value)} (hm : w.heap[m]? = some o) (h : MapAt enc o l) (k : α) (v : Value) :
    ∃ o', (Instr.mapUpdate t (.map (some m)) (enc k) v).run P w = .ok () (setBlock w m o') ∧ MapAt enc o' (aput l k v) := by
  obtain ⟨es, c, rfl, h1, h2, h3, h4⟩ := h
  have hn := nodup_keys_aput h4 k v
  rcases afind_spec k l 0 with ⟨a1, a2, a3⟩ | ⟨j, u, a1, a2, a3, _⟩
  · refine ⟨.map (es.push { key := enc k, val := v, born := c }) (c + 1), ?_, es.push { key := enc k, val := v, born := c }, c + 1, rfl, ?_, ?_, ?_, hn⟩
    · simp [Instr.mapUpdate, run_underlying ht, MapKept.run_getObj_map hm, K.check, run_findKey_enc K k l es.toList h1, a1, run_setObj_map hm, Result.andThen]
    · simp [aput, a1, h1]
    · simp only [Array.toList_push, List.map_append, List.map_cons, List.map_nil]
      rw [List.nodup_append]
      refine ⟨h2, by simp, ?_⟩
      intro x hx y hy
      simp at hy; subst hy
      obtain ⟨e, he, rfl⟩ := List.mem_map.1 hx
      have := h3 e he; omega
    · intro e he
      simp at he
      rcases he with he | rfl
      · have := h3 e (by simpa using he); omega
      · simp
  · have hj : j < l.length := (List.getElem?_eq_some_iff.1 a3).1
    have hs : es.size = l.length := by have := congrArg List.length h1; simpa using this
    have hjs : j < es.size := by omega
    have hkey : (es[j]'hjs).key = enc k := by
      have := congrArg (fun x => x[j]?) h1
      simp [a3, hjs] at this
      exact this.1
    refine ⟨.map (es.modify j fun e => { e with key := enc k, val := v }) c, ?_, es.modify j fun e => { e with key := enc k, val := v }, c, rfl, ?_, ?_, ?_, hn⟩
    · simp [Instr.mapUpdate, run_underlying ht, MapKept.run_getObj_map hm, K.check, run_findKey_enc K k l es.toList h1, a1, run_setObj_map hm, Result.andThen, Instr.keyThatStays, hjs, hkey, K.bits]
    · have e1 : (es.modify j fun e => { e with key := enc k, val := v }).toList = es.toList.set j { es[j]'hjs with key := enc k, val := v } := by
        apply List.ext_getElem?
        intro i
        simp only [Array.toList_modify, List.getElem?_modify, List.getElem?_set]
        by_cases hij : j = i
        · subst hij; simp [hjs]
        · simp [hij]
      rw [e1, List.map_set, h1]
      simp only [aput, a1, Nat.zero_add, List.map_set]
    · rw [Array.toList_modify]
      have : (es.toList.modify j fun e => { e with key := enc k, val := v }).map (·.born) = es.toList.map (·.born) := by
        apply List.ext_getElem?
        intro i
        simp only [List.getElem?_map, List.getElem?_modify]
        by_cases hij : j = i
        · subst hij; simp [hjs]
        · simp [hij]
      rw [this]; exact h2
    · intro e he
      rw [Array.toList_modify] at he
      obtain ⟨i, hi⟩ := List.getElem?_of_mem he
      simp only [List.getElem?_modify] at hi
      obtain ⟨e0, he0, rfl⟩ := Option.map_eq_some_iff.1 hi
      have := h3 e0 (List.mem_of_getElem? he0)
      split <;> simpa using this

theorem run_delete_at (K : KeyLaw P kt d enc) (ht : P.underlying t = some (.map kt et)) {ty t2 : TypeId} {w : World} {m : Nat} {o : Obj} {l : List (α × Value)} (hm : w.heap[m]? = some o) (h : MapAt enc o l) (k : α) :
    ∃ o', (Builtin.delete_ #[t, t2] ty #[.map (some m), enc k]).run P w = .ok (.tuple #[]) (setBlock w m o') ∧ MapAt enc o' (adel l k) := by
  obtain ⟨es, c, rfl, h1, h2, h3, h4⟩ := h
  have hs : es.size = l.length := by have := congrArg List.length h1; simpa using this
  rcases afind_spec k l 0 with ⟨a1, a2, a3⟩ | ⟨j, u, a1, a2, a3, a4⟩
  · have e1 : adel l k = l := by unfold adel; exact List.filter_eq_self.2 (fun p hp => by simpa using a3 p hp)
    refine ⟨.map es c, ?_, es, c, rfl, by rw [e1]; exact h1, h2, h3, by rw [e1]; exact h4⟩
    simp [Builtin.delete_, run_underlying ht, MapKept.run_getObj_map hm, K.check, run_findKey_enc K k l es.toList h1, a1, run_setObj_map hm, Result.andThen]
  · have hj : j < l.length := (List.getElem?_eq_some_iff.1 a3).1
    have hjs : j < es.size := by omega
    have e1 : adel l k = l.eraseIdx j := by
      unfold adel
      have hl : l = l.take j ++ (k, u) :: l.drop (j + 1) := by
        have e : l[j] = (k, u) := by have := List.getElem?_eq_getElem hj ▸ a3; simpa using this
        rw [← e]; simp
      have hnd : ∀ p ∈ l.drop (j + 1), p.1 ≠ k := by
        intro p hp hpk
        rw [hl] at h4
        simp only [List.map_append, List.map_cons] at h4
        have h5 := (List.nodup_append.1 h4).2.1
        exact (List.nodup_cons.1 h5).1 (List.mem_map.2 ⟨p, hp, hpk⟩)
      have htk : ∀ p ∈ l.take j, p.1 ≠ k := by
        intro p hp
        obtain ⟨i, hi⟩ := List.getElem?_of_mem hp
        have hij : i < j := by have := (List.getElem?_eq_some_iff.1 hi).1; simp at this; omega
        exact a4 i hij p (by rw [List.getElem?_take] at hi; simpa [hij] using hi)
      rw [List.eraseIdx_eq_take_drop_succ]
      conv => lhs; rw [hl]
      rw [List.filter_append, List.filter_cons]
      simp only [ne_eq, not_true_eq_false, decide_false, Bool.false_eq_true, if_false]
      rw [List.filter_eq_self.2 (fun p hp => by simpa using htk p hp), List.filter_eq_self.2 (fun p hp => by simpa using hnd p hp)]
    have e2 : (es.eraseIdxIfInBounds j).toList = es.toList.eraseIdx j := by
      unfold Array.eraseIdxIfInBounds; simp [hjs]
    refine ⟨.map (es.eraseIdxIfInBounds j) c, ?_, es.eraseIdxIfInBounds j, c, rfl, ?_, ?_, ?_, ?_⟩
    · simp [Builtin.delete_, run_underlying ht, MapKept.run_getObj_map hm, K.check, run_findKey_enc K k l es.toList h1, a1, run_setObj_map hm, Result.andThen]
    · rw [e2, e1, map_eraseIdx, map_eraseIdx, h1]
    · rw [e2, map_eraseIdx]; exact h2.sublist (List.eraseIdx_sublist _ _)
    · intro e he; rw [e2] at he; exact h3 e ((List.eraseIdx_sublist _ _).subset he)
    · rw [e1, map_eraseIdx]; exact h4.sublist (List.eraseIdx_sublist _ _)

theorem filter_born : ∀ {l : List MapEntry} {j : Nat} {e : MapEntry}, (l.map (·.born)).Nodup → l[j]? = some e → l.filter (fun x => decide (x.born ≠ e.born)) = l.eraseIdx j
  | [], _, _, _, h => by simp at h
  | x :: l, 0, e, hn, h => by
    simp at h; subst h
    have h1 := (List.nodup_cons.1 hn).1
    rw [List.filter_cons]
    simp only [ne_eq, not_true_eq_false, decide_false, Bool.false_eq_true, if_false, List.eraseIdx_cons_zero]
    exact List.filter_eq_self.2 (fun y hy => by simp; exact fun he => h1 (List.mem_map.2 ⟨y, hy, he⟩))
  | x :: l, j + 1, e, hn, h => by
    simp at h
    have h1 := (List.nodup_cons.1 hn)
    have hne : x.born ≠ e.born := fun he => h1.1 (List.mem_map.2 ⟨e, List.mem_of_getElem? h, he.symm⟩)
    rw [List.filter_cons]
    simp only [hne, ne_eq, not_false_eq_true, decide_true, if_true, List.eraseIdx_cons_succ]
    rw [filter_born h1.2 h]

/-! ### ranging over a map that stands -/
/-- what of the map the iterator has not handed out -/
def IterAt (enc : α → Value) (om oi : Obj) (m : Nat) (left : List (α × Value)) : Prop :=
  ∃ es clock since c0 seen, om = .map es clock ∧ oi = .mapIter (some m) since seen c0 ∧ since ≤ c0 ∧ since ≤ clock ∧ (∀ x ∈ es.toList, x.born < since) ∧ (es.toList.map (·.born)).Nodup ∧
    (leftOf es seen).toList.map (fun e => (e.key, e.val)) = left.map (fun p => (enc p.1, p.2))

omit [DecidableEq α] in
theorem run_range_at (ht : P.underlying t = some (.map kt et)) {w : World} {m : Nat} {o : Obj} {l : List (α × Value)} (hm : w.heap[m]? = some o) (h : MapAt enc o l) :
    ∃ oi, (Instr.range t (.map (some m))).run P w = .ok (.pointer (some ⟨w.heap.size, 0, none⟩)) (w.alloc oi) ∧ IterAt enc o oi m l := by
  obtain ⟨es, c, rfl, h1, h2, h3, h4⟩ := h
  refine ⟨_, run_range_map w t kt et m es c ht hm, es, c, c, c, #[], rfl, rfl, Nat.le_refl _, Nat.le_refl _, h3, h2, ?_⟩
  have : leftOf es #[] = es := by unfold leftOf; exact Array.filter_eq_self.2 (by simp)
  rw [this]; exact h1

omit [DecidableEq α] in
theorem run_next_iter {w : World} {ty : TypeId} {r m : Nat} {om oi : Obj} {left : List (α × Value)} (hr : w.heap[r]? = some oi) (hm : w.heap[m]? = some om) (h : IterAt enc om oi m left) :
    (left = [] ∧ (Instr.next (.pointer (some ⟨r, 0, none⟩)) false ty).run P w = .ok (.tuple #[.bool false]) w) ∨
    ∃ j p oi' w1, left[j]? = some p ∧ (w1 = w ∨ w1 = w.drew) ∧ (Instr.next (.pointer (some ⟨r, 0, none⟩)) false ty).run P w = .ok (.tuple #[.bool true, enc p.1, p.2]) (setBlock w1 r oi') ∧ IterAt enc om oi' m (left.eraseIdx j) ∧
      ∀ w' : World, w'.heap[r]? = some oi' → w'.heap[m]? = some om → (Instr.entry (.pointer (some ⟨r, 0, none⟩))).run P w' = .ok (.tuple #[enc p.1, p.2]) w' := by
  obtain ⟨es, clock, since, c0, seen, rfl, rfl, hsc, hcl, hold, hnd, hl⟩ := h
  rcases run_next_at w ty r m since c0 seen es clock hr hm hold hsc with ⟨h0, h1⟩ | ⟨e, he, w1, hw1, h1⟩
  · refine .inl ⟨?_, h1⟩
    have := congrArg List.length hl
    simp at this
    exact List.length_eq_zero_iff.1 (by omega)
  · obtain ⟨j, hj⟩ := List.getElem?_of_mem he
    have hjl := congrArg (fun x => x[j]?) hl
    simp only [List.getElem?_map, hj, Option.map_some] at hjl
    obtain ⟨p, hp, hpe⟩ := Option.map_eq_some_iff.1 hjl.symm
    simp only [Prod.mk.injEq] at hpe
    have hmem : e ∈ es.toList := by unfold leftOf at he; simp at he ⊢; exact he.1
    refine .inr ⟨j, p, _, w1, hp, hw1, by rw [hpe.1, hpe.2]; exact h1, ⟨es, clock, since, clock, seen.push e.born, rfl, rfl, hcl, hcl, hold, hnd, ?_⟩, fun w' hr' hm' => ?_⟩
    · have e1 : (leftOf es (seen.push e.born)).toList = (leftOf es seen).toList.eraseIdx j := by
        have hnd2 : ((leftOf es seen).toList.map (·.born)).Nodup := by
          unfold leftOf; rw [Array.toList_filter]; exact hnd.sublist (List.filter_sublist.map _)
        have hf : (leftOf es (seen.push e.born)).toList = (leftOf es seen).toList.filter (fun x => decide (x.born ≠ e.born)) := by
          unfold leftOf
          rw [Array.toList_filter, Array.toList_filter, List.filter_filter]
          apply List.filter_congr
          intro x _
          by_cases hx : x.born = e.born <;> simp [hx]
        rw [hf]
        exact filter_born hnd2 hj
      rw [e1, map_eraseIdx, map_eraseIdx, hl]
    · rw [hpe.1, hpe.2]; exact run_entry_at w' r m since seen es clock e hr' hm' hmem hnd
end

/-! ### keys -/
theorem ba_beq (a b : ByteArray) : (a == b) = decide (a = b) := by
  rcases a with ⟨a⟩; rcases b with ⟨b⟩
  show (a == b) = _
  rw [Bool.eq_iff_iff]; simp
theorem str_key {P : Program} {kt : TypeId} (h : P.underlying kt = some .string) : KeyLaw P kt .string Value.string where
  und := h
  same := fun a b => by simp only [Instr.sameNow, ba_beq]
  check := fun e a w => by unfold Instr.checkKey; simp [run_underlying h, Result.andThen]
  bits := fun a => by simp [Instr.sameBits, ba_beq]
theorem int_key {P : Program} {kt : TypeId} {k : IntKind} (h : P.underlying kt = some (.int k)) : KeyLaw P kt (.int k) (Value.int k) where
  und := h
  same := fun a b => by simp only [Instr.sameNow, if_true]; congr 1
  check := fun e a w => by unfold Instr.checkKey; simp [run_underlying h, Result.andThen]
  bits := fun a => by simp [Instr.sameBits]
end Go.Proofs.Ytjbalcfdenaneaa.Mu
