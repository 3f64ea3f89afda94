import Derived.WalkKit
import Derived.WalkSmall
import Derived.Deep.AppendSrc
import Derived.ChangeMaps5
namespace Go.Proofs.Ytjbalcfdenaneaa.Mu
open Go Go.RowKit Go.ChangeMaps

/-- w' is w but for the blocks of F, and new ones -/
structure Keeps (F : Nat → Prop) (w w' : World) : Prop where
  os : w'.os = w.os
  tape : w'.tape = w.tape
  output : w'.output = w.output
  size : w.heap.size ≤ w'.heap.size
  block : ∀ k, k < w.heap.size → ¬ F k → w'.heap[k]? = w.heap[k]?
abbrev Ext (w w' : World) : Prop := Below w.heap.size w w'
/-- F, and what is new -/
def grow (F : Nat → Prop) (w w' : World) (k : Nat) : Prop := F k ∨ (w.heap.size ≤ k ∧ k < w'.heap.size)

theorem Keeps.refl (F : Nat → Prop) (w : World) : Keeps F w w := ⟨rfl, rfl, rfl, Nat.le_refl _, fun _ _ _ => rfl⟩
theorem Keeps.of_ext {F : Nat → Prop} {w w' : World} (h : Ext w w') : Keeps F w w' := ⟨h.os, h.tape, h.output, h.size, fun k hk _ => h.block k hk⟩
theorem Keeps.trans {F G : Nat → Prop} {a b c : World} (h : Keeps F a b) (g : Keeps G b c) (hG : ∀ k, k < a.heap.size → G k → F k) : Keeps F a c :=
  ⟨g.os.trans h.os, g.tape.trans h.tape, g.output.trans h.output, Nat.le_trans h.size g.size, fun k hk hf => (g.block k (Nat.lt_of_lt_of_le hk h.size) (fun hg => hf (hG k hk hg))).trans (h.block k hk hf)⟩
theorem Keeps.mono {F G : Nat → Prop} {a b : World} (h : Keeps F a b) (hG : ∀ k, k < a.heap.size → F k → G k) : Keeps G a b :=
  ⟨h.os, h.tape, h.output, h.size, fun k hk hg => h.block k hk (fun hf => hg (hG k hk hf))⟩
theorem Keeps.below {F : Nat → Prop} {B : Nat} {a b : World} (h : Keeps F a b) (hB : B ≤ a.heap.size) (hF : ∀ k, F k → B ≤ k) : Below B a b :=
  ⟨h.os, h.tape, h.output, h.size, fun k hk => h.block k (by omega) (fun hf => by have := hF k hf; omega)⟩
theorem Keeps.ext {F : Nat → Prop} {a b : World} (h : Keeps F a b) (hF : ∀ k, F k → a.heap.size ≤ k) : Ext a b := h.below (Nat.le_refl _) hF
theorem Ext.refl (w : World) : Ext w w := Below.refl _ _
theorem Ext.trans {a b c : World} (h : Ext a b) (g : Ext b c) : Ext a c := Below.trans h (g.mono h.size)
/-- an extension, then a change of what is new -/
theorem ext_keeps {F : Nat → Prop} {a b c : World} (h : Ext a b) (g : Keeps F b c) (hF : ∀ k, F k → a.heap.size ≤ k) : Ext a c :=
  ⟨g.os.trans h.os, g.tape.trans h.tape, g.output.trans h.output, Nat.le_trans h.size g.size, fun k hk => (g.block k (Nat.lt_of_lt_of_le hk h.size) (fun hf => by have := hF k hf; omega)).trans (h.block k hk)⟩
theorem Ext.get {w w' : World} (h : Ext w w') {k : Nat} {o : Obj} (hk : w.heap[k]? = some o) : w'.heap[k]? = some o := by
  rw [h.block k (Array.getElem?_eq_some_iff.1 hk).1]; exact hk
theorem Keeps.get {F : Nat → Prop} {w w' : World} (h : Keeps F w w') {k : Nat} {o : Obj} (hk : w.heap[k]? = some o) (hf : ¬ F k) : w'.heap[k]? = some o := by
  rw [h.block k (Array.getElem?_eq_some_iff.1 hk).1 hf]; exact hk
theorem Keeps.drew {F : Nat → Prop} {a b : World} (h : Keeps F a b) : Keeps F a b.drew := ⟨h.os, h.tape, h.output, h.size, h.block⟩
theorem Keeps.alloc {F : Nat → Prop} {a b : World} (h : Keeps F a b) (o : Obj) : Keeps F a (b.alloc o) :=
  ⟨h.os, h.tape, h.output, Nat.le_trans h.size (by simp), fun k hk hf => (Below.heap_alloc _ _ _ (Nat.lt_of_lt_of_le hk h.size)).trans (h.block k hk hf)⟩
theorem Keeps.setCell {F : Nat → Prop} {a b : World} (h : Keeps F a b) {p : Addr} (hp : F p.block ∨ a.heap.size ≤ p.block) (v : Value) : Keeps F a (b.setCell p v) :=
  ⟨h.os, h.tape, h.output, Nat.le_trans h.size (by simp [World.setCell]), fun k hk hf => (Below.heap_setCell _ _ _ _ (by rintro rfl; rcases hp with hp | hp <;> first | exact hf hp | omega)).trans (h.block k hk hf)⟩
theorem Keeps.setBlock {F : Nat → Prop} {a b : World} (h : Keeps F a b) {p : Nat} (hp : F p ∨ a.heap.size ≤ p) (o : Obj) : Keeps F a (setBlock b p o) :=
  ⟨h.os, h.tape, h.output, Nat.le_trans h.size (by simp [ChangeMaps.setBlock]), fun k hk hf => by
    refine Eq.trans ?_ (h.block k hk hf)
    simp only [ChangeMaps.setBlock, Array.getElem?_setIfInBounds]
    rw [if_neg (by rintro rfl; rcases hp with hp | hp <;> first | exact hf hp | omega)]⟩
theorem Keeps.grown {F : Nat → Prop} {a b c : World} {row : Option Nat} (h : Keeps F a b) (g : b.grownBy c row) (hr : ∀ k, row = some k → F k ∨ a.heap.size ≤ k) : Keeps F a c :=
  ⟨g.os.trans h.os, g.tape.trans h.tape, g.output.trans h.output, Nat.le_trans h.size g.size, fun k hk hf => (g.block k (Nat.lt_of_lt_of_le hk h.size) (fun e => by rcases hr k e.symm with hp | hp <;> first | exact hf hp | omega)).trans (h.block k hk hf)⟩

/-! ### blocks -/
theorem drew_heap (w : World) : w.drew.heap = w.heap := by cases w; rfl
theorem get_alloc {w : World} {k : Nat} {o : Obj} (o' : Obj) (h : w.heap[k]? = some o) : (w.alloc o').heap[k]? = some o := by
  rw [Below.heap_alloc w o' k (Array.getElem?_eq_some_iff.1 h).1]; exact h
theorem get_new (w : World) (o : Obj) : (w.alloc o).heap[w.heap.size]? = some o := heap_alloc_new w o
theorem get_setCell_ne {w : World} {k : Nat} {o : Obj} {a : Addr} (v : Value) (h : w.heap[k]? = some o) (hne : k ≠ a.block) : (w.setCell a v).heap[k]? = some o := by
  rw [Below.heap_setCell w a v k hne]; exact h
theorem get_setCell {w : World} {k i : Nat} {c : Array Value} {T : TypeId} {f : Nat × Nat} (v : Value) (h : w.heap[k]? = some (.cells c T f)) : (w.setCell ⟨k, i, none⟩ v).heap[k]? = some (.cells (c.setIfInBounds i v) T f) := by
  simp [World.setCell, Array.getElem?_modify, h]
theorem get_setBlock_ne {w : World} {k b : Nat} {o : Obj} (o' : Obj) (h : w.heap[k]? = some o) (hne : k ≠ b) : (setBlock w b o').heap[k]? = some o := by
  simp only [ChangeMaps.setBlock, Array.getElem?_setIfInBounds]; rw [if_neg (Ne.symm hne)]; exact h
theorem get_setBlock {w : World} {b : Nat} {o : Obj} (o' : Obj) (h : w.heap[b]? = some o) : (setBlock w b o').heap[b]? = some o' := by
  simp [ChangeMaps.setBlock, (Array.getElem?_eq_some_iff.1 h).1]
theorem lt_of_get {w : World} {k : Nat} {o : Obj} (h : w.heap[k]? = some o) : k < w.heap.size := (Array.getElem?_eq_some_iff.1 h).1
theorem cell_of {w : World} {k : Nat} {c : Array Value} {T : TypeId} {f : Nat × Nat} (h : w.heap[k]? = some (.cells c T f)) (i : Nat) : w.cell? ⟨k, i, none⟩ = c[i]? := by simp [World.cell?, h]
theorem free_of {w : World} {k : Nat} {c : Array Value} {T : TypeId} (h : w.heap[k]? = some (.cells c T (0, 0))) (i : Nat) : w.frozen? ⟨k, i, none⟩ = false := by simp [World.frozen?, h]

/-! ### bytes -/
def encB (l : List UInt8) : List Value := l.map fun c => .int .u8 c.toNat
/-- what a slice of bytes reads as -/
def BytesAt (w : World) (v : Value) (l : List UInt8) : Prop :=
  (v = .slice none 0 0 ∧ l = []) ∨ ∃ a cap, v = .slice (some a) l.length cap ∧ l.length ≤ cap ∧ cap ≤ maxLen ∧ ∀ i (h : i < l.length), w.cell? (a.add i) = some (.int .u8 (l[i]).toNat)
theorem add_block (a : Addr) (i : Nat) : (a.add i).block = a.block := by unfold Addr.add; split <;> rfl
theorem BytesAt.move {w w' : World} {v : Value} {l : List UInt8} (h : BytesAt w v l) (hm : ∀ k, v.ownBlock = some k → k < w.heap.size → w'.heap[k]? = w.heap[k]?) : BytesAt w' v l := by
  rcases h with h | ⟨a, cap, rfl, h1, h2, h5⟩
  · exact .inl h
  · refine .inr ⟨a, cap, rfl, h1, h2, fun i hi => ?_⟩
    have hlt := World.block_lt_of_cell? w (a.add i) (h5 i hi)
    rw [World.cell?_of_block (w := w) (hm _ (by simp [Value.ownBlock, add_block]) hlt)]
    exact h5 i hi
theorem BytesAt.ext {w w' : World} {v : Value} {l : List UInt8} (h : BytesAt w v l) (he : Ext w w') : BytesAt w' v l := h.move (fun k _ hk => he.block k hk)
theorem BytesAt.keeps {F : Nat → Prop} {w w' : World} {v : Value} {l : List UInt8} (h : BytesAt w v l) (he : Keeps F w w') (hf : ∀ k, v.ownBlock = some k → ¬ F k) : BytesAt w' v l := h.move (fun k hk hlt => he.block k hlt (hf k hk))
theorem BytesAt.of_owns {w : World} {B e : Nat} {v : Value} {l : List UInt8} (h : w.ownsRow B e 1 v l.length (encB l)) : BytesAt w v l := by
  rcases h.2 with ⟨rfl, h0⟩ | ⟨g, cap, cur, rfl, _, hg, hn, hm, hc, ht⟩
  · exact .inl ⟨rfl, List.length_eq_zero_iff.1 h0⟩
  · refine .inr ⟨⟨g, 0, none⟩, cap, rfl, hn, hm, fun i hi => ?_⟩
    have hadd : (⟨g, 0, none⟩ : Addr).add i = ⟨g, i, none⟩ := by unfold Addr.add; split <;> simp_all
    rw [hadd, cell_of hg]
    have e := congrArg (fun x => x[i]?) ht
    simp only [Nat.mul_one, encB, List.getElem?_take, hi, if_true, List.getElem?_map, List.getElem?_eq_getElem hi, Option.map_some] at e
    rw [← Array.getElem?_toList]; exact e
end Go.Proofs.Ytjbalcfdenaneaa.Mu
