/- What a disk is in memory (DiskR), and what it is for a reader (DM). -/
import Derived.Test.YtjbalcfdenaneaaProg
import Derived.Test.YtjbalcfdenaneaaMuMap
import Derived.Test.YtjbalcfdenaneaaMuBase
import Derived.KernelRfl
namespace Go.Proofs.Ytjbalcfdenaneaa
open Go Go.RowKit Go.ChangeMaps Mu

/-- a file, as a reader has it -/
structure DF where
  name : ByteArray
  data : List UInt8
  syn : Nat
/-- a disk, as a reader has it; the files in the order of the map -/
structure DM where
  armed : Nat
  steps : Nat
  down : Bool
  cap : Nat
  files : List DF
/-- a file, and where it lies -/
structure FRec where
  f : DF
  blk : Nat
  v : Value
def FRec.foot (x : FRec) : List Nat := x.blk :: x.v.ownBlock.toList
def FRec.ent (x : FRec) : ByteArray × Value := (x.f.name, .pointer (some ⟨x.blk, 0, none⟩))
def diskO (M : DM) (m : Nat) : Obj := .cells #[.int .i64 M.armed, .int .i64 M.steps, .bool M.down, .int .i64 M.cap, .map (some m)] 51 (0, 0)
def fileO (v : Value) (s : Nat) : Obj := .cells #[v, .int .i64 s] 79 (0, 0)
def used (l : List DF) : Nat := (l.map (fun f => f.data.length)).sum

/-- bounds that a disk keeps -/
structure DM.Ok (M : DM) : Prop where
  cap : M.cap ≤ 67108864
  used : used M.files ≤ 67108864
  many : M.files.length ≤ 1024
  syn : ∀ f ∈ M.files, f.syn ≤ f.data.length
  names : ∀ f ∈ M.files, f.name.size ≤ 64

structure DiskR (w : World) (F : Nat → Prop) (b m : Nat) (mo : Obj) (fs : List FRec) (M : DM) : Prop where
  blk : w.heap[b]? = some (diskO M m)
  map : w.heap[m]? = some mo
  at_ : MapAt Value.string mo (fs.map FRec.ent)
  file : ∀ x ∈ fs, w.heap[x.blk]? = some (fileO x.v x.f.syn) ∧ w.ownsRow 0 5 1 x.v x.f.data.length (encB x.f.data)
  apart : (b :: m :: fs.flatMap FRec.foot).Nodup
  foot : ∀ k ∈ b :: m :: fs.flatMap FRec.foot, F k
  files : fs.map FRec.f = M.files
  ok : M.Ok
  lim : ∀ k, F k → k < w.heap.size
/-- the disk at b reads as M -/
def Disk (w : World) (F : Nat → Prop) (b : Nat) (M : DM) : Prop := ∃ m mo fs, DiskR w F b m mo fs M

theorem owns_move {w w' : World} {B e n : Nat} {v : Value} {xs : List Value} (h : w.ownsRow B e 1 v n xs) (hm : ∀ k, v.ownBlock = some k → w'.heap[k]? = w.heap[k]?) : w'.ownsRow B e 1 v n xs := by
  refine ⟨h.1, ?_⟩
  rcases h.2 with hn | ⟨g, cap, cur, rfl, hg, hh, rest⟩
  · exact .inl hn
  · exact .inr ⟨g, cap, cur, rfl, hg, by rw [hm g (by simp [Value.ownBlock])]; exact hh, rest⟩

theorem owns_lt {w : World} {B e n : Nat} {v : Value} {xs : List Value} (h : w.ownsRow B e 1 v n xs) {k : Nat} (hk : v.ownBlock = some k) : k < w.heap.size := (h.lt k hk).2

theorem DiskR.lt {w : World} {F : Nat → Prop} {b m : Nat} {mo : Obj} {fs : List FRec} {M : DM} (h : DiskR w F b m mo fs M) : ∀ k ∈ b :: m :: fs.flatMap FRec.foot, k < w.heap.size := by
  intro k hk
  simp only [List.mem_cons, List.mem_flatMap] at hk
  rcases hk with rfl | rfl | ⟨x, hx, hk⟩
  · exact lt_of_get h.blk
  · exact lt_of_get h.map
  · simp only [FRec.foot, List.mem_cons, Option.mem_toList] at hk
    rcases hk with rfl | hk
    · exact lt_of_get (h.file x hx).1
    · exact owns_lt (h.file x hx).2 hk

/-- what lies elsewhere plays no part -/
theorem DiskR.move {w w' : World} {F F' : Nat → Prop} {b m : Nat} {mo : Obj} {fs : List FRec} {M : DM} (h : DiskR w F b m mo fs M) (hm : ∀ k, F k → k < w.heap.size → w'.heap[k]? = w.heap[k]?) (hF : ∀ k, F k → F' k) (hl : ∀ k, F' k → k < w'.heap.size) : DiskR w' F' b m mo fs M := by
  have hall : ∀ k ∈ b :: m :: fs.flatMap FRec.foot, w'.heap[k]? = w.heap[k]? := fun k hk => hm k (h.foot k hk) (h.lt k hk)
  refine ⟨(hall b (by simp)).trans h.blk, (hall m (by simp)).trans h.map, h.at_, fun x hx => ?_, h.apart, fun k hk => hF k (h.foot k hk), h.files, h.ok, hl⟩
  have hsub : ∀ k ∈ x.foot, k ∈ b :: m :: fs.flatMap FRec.foot := fun k hk => by
    simp only [List.mem_cons, List.mem_flatMap]; exact .inr (.inr ⟨x, hx, hk⟩)
  exact ⟨(hall x.blk (hsub _ (by simp [FRec.foot]))).trans (h.file x hx).1, owns_move (h.file x hx).2 (fun k hk => hall k (hsub _ (by simp [FRec.foot, hk])))⟩

theorem DiskR.ext' {w w' : World} {F : Nat → Prop} {b m : Nat} {mo : Obj} {fs : List FRec} {M : DM} (h : DiskR w F b m mo fs M) (he : Ext w w') : DiskR w' F b m mo fs M := h.move (fun k _ hk => he.block k hk) (fun _ h => h) (fun k hk => Nat.lt_of_lt_of_le (h.lim k hk) he.size)
theorem Disk.ext {w w' : World} {F : Nat → Prop} {b : Nat} {M : DM} (h : Disk w F b M) (he : Ext w w') : Disk w' F b M := by
  obtain ⟨m, mo, fs, h⟩ := h; exact ⟨m, mo, fs, h.ext' he⟩
theorem Disk.keeps {w w' : World} {F G : Nat → Prop} {b : Nat} {M : DM} (h : Disk w F b M) (he : Keeps G w w') (hd : ∀ k, F k → k < w.heap.size → ¬ G k) : Disk w' F b M := by
  obtain ⟨m, mo, fs, h⟩ := h; exact ⟨m, mo, fs, h.move (fun k hf hk => he.block k hk (hd k hf hk)) (fun _ h => h) (fun k hk => Nat.lt_of_lt_of_le (h.lim k hk) he.size)⟩
theorem Disk.mono {w : World} {F F' : Nat → Prop} {b : Nat} {M : DM} (h : Disk w F b M) (hF : ∀ k, F k → F' k) (hl : ∀ k, F' k → k < w.heap.size) : Disk w F' b M := by
  obtain ⟨m, mo, fs, h⟩ := h; exact ⟨m, mo, fs, h.move (fun _ _ _ => rfl) hF hl⟩
theorem Disk.ok {w : World} {F : Nat → Prop} {b : Nat} {M : DM} (h : Disk w F b M) : M.Ok := by obtain ⟨m, mo, fs, h⟩ := h; exact h.ok

theorem Disk.lim {w : World} {F : Nat → Prop} {b : Nat} {M : DM} (h : Disk w F b M) : ∀ k, F k → k < w.heap.size := by obtain ⟨m, mo, fs, h⟩ := h; exact h.lim
theorem grow_lim {w w' : World} {F : Nat → Prop} (h : ∀ k, F k → k < w.heap.size) (hs : w.heap.size ≤ w'.heap.size) : ∀ k, grow F w w' k → k < w'.heap.size := fun k hk => by
  rcases hk with hk | hk
  · exact Nat.lt_of_lt_of_le (h k hk) hs
  · exact hk.2

/-! ### by name -/
def find (l : List DF) (n : ByteArray) : Option DF := l.find? (fun f => decide (f.name = n))
theorem DiskR.look {w : World} {F : Nat → Prop} {b m : Nat} {mo : Obj} {fs : List FRec} {M : DM} (h : DiskR w F b m mo fs M) (n : ByteArray) :
    (find M.files n = none ∧ aget (fs.map FRec.ent) n = none) ∨ ∃ x ∈ fs, find M.files n = some x.f ∧ x.f.name = n ∧ aget (fs.map FRec.ent) n = some (.pointer (some ⟨x.blk, 0, none⟩)) := by
  rw [← h.files]
  generalize fs = l
  induction l with
  | nil => exact .inl ⟨rfl, rfl⟩
  | cons x l ih =>
    by_cases hx : x.f.name = n
    · exact .inr ⟨x, by simp, by simp [find, hx], hx, by simp [aget, FRec.ent, hx]⟩
    · rcases ih with ⟨h1, h2⟩ | ⟨y, hy, h1, h2, h3⟩
      · exact .inl ⟨by simpa [find, hx] using h1, by simpa [aget, FRec.ent, hx] using h2⟩
      · exact .inr ⟨y, by simp [hy], by simpa [find, hx] using h1, h2, by simpa [aget, FRec.ent, hx] using h3⟩
theorem skey : KeyLaw Try.prog 9 .string Value.string := str_key Try.underlying9
theorem zfile (w : World) : (zeroValue 76).run Try.prog w = .ok (.pointer none) w := by kernel_rfl
/-- 'd.files[name]', in whatever world has the map -/
theorem DiskR.lookup {w : World} {F : Nat → Prop} {b m : Nat} {mo : Obj} {fs : List FRec} {M : DM} (h : DiskR w F b m mo fs M) (n : ByteArray) (w' : World) (hw : w'.heap[m]? = w.heap[m]?) :
    (Instr.lookup 49 (.map (some m)) (.string n) false).run Try.prog w' = .ok ((aget (fs.map FRec.ent) n).getD (.pointer none)) w' :=
  run_lookup_at skey Try.underlying49 (zfile w') (hw.trans h.map) h.at_ n
end Go.Proofs.Ytjbalcfdenaneaa
