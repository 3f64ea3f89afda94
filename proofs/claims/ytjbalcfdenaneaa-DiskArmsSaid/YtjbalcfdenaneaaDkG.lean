/- Walks: Read, List, Size, Capacity, Down, Steps, Arm. -/
import Derived.Test.YtjbalcfdenaneaaDkE
import Derived.Test.YtjbalcfdenaneaaDkJ
import Derived.Test.YtjbalcfdenaneaaDkIt
namespace Go.Proofs.Ytjbalcfdenaneaa
open Go Go.RowKit Go.ChangeMaps Mu
set_option maxRecDepth 100000
attribute [local go_sem] drew_heap get_alloc

theorem mem_used {M : DM} {f : DF} (h : f ∈ M.files) : f.data.length ≤ used M.files := by
  unfold used
  generalize M.files = l at *
  induction l with
  | nil => simp at h
  | cons g l ih => simp only [List.map_cons, List.sum_cons]; rcases List.mem_cons.1 h with rfl | h
                   · omega
                   · have := ih h; omega
theorem owns_base {w : World} {B B' e n : Nat} {v : Value} {xs : List Value} (h : w.ownsRow B e 1 v n xs) (hb : B' ≤ B) : w.ownsRow B' e 1 v n xs := by
  refine ⟨h.1, ?_⟩
  rcases h.2 with hn | ⟨g, cap, cur, rfl, hg, rest⟩
  · exact .inl hn
  · exact .inr ⟨g, cap, cur, rfl, Nat.le_trans hb hg, rest⟩

theorem Down_any {w : World} {F : Nat → Prop} {b : Nat} {M : DM} (h : Disk w F b M) : Calls Try.prog 22 #[.pointer (some ⟨b, 0, none⟩)] w fun e w' => e = .returned (.bool M.down) ∧ w' = w := by
  obtain ⟨m, mo, fs, h⟩ := h
  obtain ⟨c0, c1, c2, c3, c4⟩ := h.cells
  clear h
  go_enter Try.func22, Try.ntmps22
  go_wp2
  go_ret
  exact ⟨rfl, rfl⟩
theorem Steps_any {w : World} {F : Nat → Prop} {b : Nat} {M : DM} (h : Disk w F b M) : Calls Try.prog 23 #[.pointer (some ⟨b, 0, none⟩)] w fun e w' => e = .returned (.int .i64 M.steps) ∧ w' = w := by
  obtain ⟨m, mo, fs, h⟩ := h
  obtain ⟨c0, c1, c2, c3, c4⟩ := h.cells
  clear h
  go_enter Try.func23, Try.ntmps23
  go_wp2
  go_ret
  exact ⟨rfl, rfl⟩
theorem Capacity_any {w : World} {F : Nat → Prop} {b : Nat} {M : DM} (h : Disk w F b M) : Calls Try.prog 34 #[.pointer (some ⟨b, 0, none⟩)] w fun e w' => e = .returned (.int .i64 M.cap) ∧ w' = w := by
  obtain ⟨m, mo, fs, h⟩ := h
  obtain ⟨c0, c1, c2, c3, c4⟩ := h.cells
  clear h
  go_enter Try.func34, Try.ntmps34
  go_wp2
  go_ret
  exact ⟨rfl, rfl⟩

def DM.arm (M : DM) (n : Int) : DM := if M.down = true then M else { M with armed := n.toNat }
theorem Arm_any {w : World} {F : Nat → Prop} {b : Nat} {M : DM} (h : Disk w F b M) (n : Int) : Calls Try.prog 16 #[.pointer (some ⟨b, 0, none⟩), .int .i64 n] w fun e w' => e = .returned (.tuple #[]) ∧ Disk w' F b (M.arm n) ∧ Keeps (fun k => k = b) w w' := by
  obtain ⟨m, mo, fs, h⟩ := h
  obtain ⟨c0, c1, c2, c3, c4⟩ := h.cells
  have f0 := free_of h.blk 0
  have H := Lib.hid h
  clear h
  rcases Bool.eq_false_or_eq_true M.down with hd | hd
  · rw [hd] at c2
    have q : M.arm n = M := by simp [DM.arm, hd]
    have Q := Lib.hid q; clear q hd
    go_enter Try.func16, Try.ntmps16
    go_wp2
    go_end0
    exact ⟨rfl, by rw [Q.out]; exact ⟨m, mo, fs, H.out⟩, Keeps.refl (fun k => k = b) w⟩
  · rw [hd] at c2
    have q : M.arm n = { M with armed := n.toNat } := by simp [DM.arm, hd]
    have Q := Lib.hid q
    have hk : Keeps (fun k => k = b) w (w.setCell ⟨b, 0, none⟩ (.int .i64 (max n 0))) := (Keeps.refl (fun k => k = b) w).setCell (.inl rfl) _
    have hb := get_setCell (i := 0) (.int .i64 (max n 0)) H.out.blk
    have hR : DiskR (w.setCell ⟨b, 0, none⟩ (.int .i64 (max n 0))) F b m mo fs (M.arm n) := H.out.setBlk (by
      rw [hb, q]
      have : ((n.toNat : Nat) : Int) = max n 0 := by omega
      simp [diskO, this]) hk (by rw [q]) (by rw [q])
    have HR := Lib.hid hR; have HK := Lib.hid hk
    clear q hd hk hb hR
    go_enter Try.func16, Try.ntmps16
    go_wp2
    go_end0
    exact ⟨rfl, ⟨m, mo, fs, HR.out⟩, HK.out⟩

def sizeE (M : DM) (n : ByteArray) : Nat × Nat := if M.down = true then (0, 0) else match find M.files n with | some f => (f.data.length, f.syn) | none => (0, 0)
theorem Size_any {w : World} {F : Nat → Prop} {b : Nat} {M : DM} (h : Disk w F b M) (n : ByteArray) : Calls Try.prog 28 #[.pointer (some ⟨b, 0, none⟩), .string n] w fun e w' => e = .returned (.tuple #[.int .i64 (sizeE M n).1, .int .i64 (sizeE M n).2]) ∧ Ext w w' := by
  obtain ⟨m, mo, fs, h⟩ := h
  obtain ⟨c0, c1, c2, c3, c4⟩ := h.cells
  have hlk := fun w' hw => h.lookup n w' hw
  rcases h.look n with ⟨h1, h2⟩ | ⟨x, hx, h1, h3, h2⟩
  · rw [h2] at hlk; simp only [Option.getD_none] at hlk
    have hlk := hlk w rfl
    have q : sizeE M n = (0, 0) := by simp [sizeE, h1]
    rw [q]
    clear h1 h2 q h
    rcases Bool.eq_false_or_eq_true M.down with hd | hd
    all_goals
      rw [hd] at c2; clear hd
      go_enter Try.func28, Try.ntmps28
      go_wp2
      go_ret2
      exact ⟨rfl, Ext.refl _⟩
  · rw [h2] at hlk; simp only [Option.getD_some] at hlk
    have hlk := hlk w rfl
    have hfile := h.file x hx
    obtain ⟨av, cv, hv, _⟩ := owns_slice hfile.2
    have hb := hfile.1
    rw [hv] at hb
    have k0 := cell_of hb 0
    have k1 := cell_of hb 1
    have k0 : w.cell? ⟨x.blk, 0, none⟩ = some (.slice av x.f.data.length cv) := k0
    have k1 : w.cell? ⟨x.blk, 1, none⟩ = some (.int .i64 x.f.syn) := k1
    rcases Bool.eq_false_or_eq_true M.down with hd | hd
    · have q : sizeE M n = (0, 0) := by simp [sizeE, hd]
      rw [q]
      rw [hd] at c2
      clear h1 h2 q h hb hfile hv hx h3 hd k0 k1
      go_enter Try.func28, Try.ntmps28
      go_wp2
      go_ret2
      exact ⟨rfl, Ext.refl _⟩
    · have q : sizeE M n = (x.f.data.length, x.f.syn) := by simp [sizeE, hd, h1]
      rw [q]
      rw [hd] at c2
      clear h1 h2 q h hb hfile hv hx h3 hd
      go_enter Try.func28, Try.ntmps28
      go_wp2
      refine wp_region_sig (tg [0,0,0,1,0,0,0,0,1,0,0]) [0,1,2,3,4,5,6,7,8,9,10] (by kernel_rfl) (by kernel_rfl) ?_
      repeat (first | (refine sig_p rfl rfl (fun K hK => ?_); go_simp; refine hK _ ?_; clear hK K) | (refine sig_q rfl rfl (fun K hK => ?_); go_simp; refine hK _ ?_; clear hK K) | (refine sig_r rfl rfl rfl (fun K hK => ?_); go_simp; refine hK _ _ _ ?_; clear hK K))
      refine sig_nil ?_
      go_wp2
      go_ret2
      exact ⟨rfl, (Ext.refl _).drew⟩

def readE (M : DM) (n : ByteArray) : Int := if M.down = true then 24 else thereE M n
def readD (M : DM) (n : ByteArray) : List UInt8 := if M.down = true then [] else match find M.files n with | some f => f.data | none => []
theorem Read_any {w : World} {F : Nat → Prop} {b : Nat} {M : DM} (h : Disk w F b M) (n : ByteArray) : Calls Try.prog 27 #[.pointer (some ⟨b, 0, none⟩), .string n] w fun e w' => ∃ v, e = .returned (.tuple #[v, .int .i64 (readE M n)]) ∧ w'.ownsRow 0 5 1 v (readD M n).length (encB (readD M n)) ∧ (∀ g, v.ownBlock = some g → w.heap.size ≤ g) ∧ Ext w w' := by
  obtain ⟨m, mo, fs, h⟩ := h
  obtain ⟨c0, c1, c2, c3, c4⟩ := h.cells
  have hok := h.ok
  rcases Bool.eq_false_or_eq_true M.down with hd | hd
  · have q : readE M n = 24 := by simp [readE, hd]
    have q2 : readD M n = [] := by simp [readD, hd]
    rw [q, q2]
    rw [hd] at c2
    clear q q2 h hd hok
    go_enter Try.func27, Try.ntmps27
    go_wp2
    go_ret2
    exact ⟨_, rfl, World.ownsRow_nil _ _ _ _, fun g hg => by simp [Value.ownBlock] at hg, Ext.refl _⟩
  · rw [hd] at c2
    have q : readE M n = thereE M n := by simp [readE, hd]
    rw [q]; clear q
    have H := Lib.hid h
    have hlk := fun w' hw => h.lookup n w' hw
    rcases h.look n with ⟨h1, h2⟩ | ⟨x, hx, h1, h3, h2⟩
    · have q : thereE M n = 14 := by simp [thereE, h1]
      have q2 : readD M n = [] := by simp [readD, h1]
      rw [q, q2]
      have Q := Lib.hid q
      clear h1 h2 hd hok h q q2 hlk
      go_enter Try.func27, Try.ntmps27
      go_wp2_with (go_at_call 44; refine (there_any H.out n).mono ?_; rw [Q.out]; rintro e w' ⟨rfl, rfl⟩)
      go_ret2
      exact ⟨_, rfl, World.ownsRow_nil _ _ _ _, fun g hg => by simp [Value.ownBlock] at hg, Ext.refl _⟩
    · have q : thereE M n = 0 := by simp [thereE, h1]
      have q2 : readD M n = x.f.data := by simp [readD, hd, h1]
      rw [q, q2]
      have Q := Lib.hid q
      rw [h2] at hlk; simp only [Option.getD_some] at hlk
      have hlk := hlk w rfl
      have hfile := h.file x hx
      have k0 : w.cell? ⟨x.blk, 0, none⟩ = some x.v := cell_of hfile.1 0
      have hl : x.f.data.length ≤ 140737488355328 := by
        have := hok.cap; have := hok.used; have := mem_used (M := M) (f := x.f) (by rw [← h.files]; exact List.mem_map_of_mem hx); omega
      have HC := Lib.hid (Clone_any (BytesAt.of_owns hfile.2) hl)
      clear h1 h2 hd hok h q q2 hfile hx h3 hl
      go_enter Try.func27, Try.ntmps27
      go_wp2_with (first | (go_at_call 44; refine (there_any H.out n).mono ?_; rw [Q.out]; rintro e w' ⟨rfl, rfl⟩) | (go_at_call 33; refine HC.out.mono ?_; rintro e w' ⟨v, rfl, ho, hf, he⟩; have HO := Lib.hid ho; have HF := Lib.hid hf; clear ho hf))
      go_ret2
      exact ⟨v, rfl, HO.out, HF.out, he⟩

def DM.rise (M : DM) : List (List UInt8) := Ytjbalcfdenaneaa.rise (M.files.map (·.name))
theorem names_any {w : World} {F : Nat → Prop} {b : Nat} {M : DM} (h : Disk w F b M) : Calls Try.prog 52 #[.pointer (some ⟨b, 0, none⟩)] w fun e w' => ∃ v, e = .returned v ∧ w'.ownsRow 0 9 1 v M.rise.length (M.rise.map encStr) ∧ (∀ g, v.ownBlock = some g → w.heap.size ≤ g) ∧ (v = .slice none 0 0 ↔ M.files = []) ∧ Ext w w' := by
  obtain ⟨m, mo, fs, h⟩ := h
  obtain ⟨c0, c1, c2, c3, c4⟩ := h.cells
  have hok := h.ok
  have hnm : (fs.map FRec.ent).map (·.1) = M.files.map (·.name) := by rw [← h.files]; simp [List.map_map, Function.comp_def, FRec.ent]
  have hlen : (fs.map FRec.ent).length = M.files.length := by rw [← h.files]; simp
  have hrl : M.rise.length = (fs.map FRec.ent).length := by simp [DM.rise, Ytjbalcfdenaneaa.rise, hlen]
  have hS := sorted_any h.map h.at_ (fun p hp => by
    obtain ⟨x, hx, rfl⟩ := List.mem_map.1 hp
    exact hok.names x.f (by rw [← h.files]; exact List.mem_map_of_mem hx)) (by rw [hlen]; exact hok.many)
  rw [hnm] at hS
  have hz : fs.map FRec.ent = [] ↔ M.files = [] := by rw [← h.files]; simp
  rw [hz, ← hrl] at hS
  have HS := Lib.hid hS
  clear hS hz hrl hlen hnm hok h
  go_enter Try.func52, Try.ntmps52
  go_wp2_with (first | (go_at_call 60; refine (keys_any (some m) w).mono ?_; rintro e w' ⟨rfl, rfl⟩) | (go_at_call 59; refine HS.out.mono ?_; rintro e w' ⟨v, rfl, ho, hn, he⟩; have HO := Lib.hid ho; have HN := Lib.hid hn; clear ho hn))
  go_ret
  refine ⟨v, rfl, owns_base HO.out (Nat.zero_le _), fun g hg => ?_, HN.out, Ext.trans (b := w.alloc (.cells #[.map (some m)] 49)) ((Ext.refl w).alloc (Nat.le_refl _) _) he⟩
  have := (HO.out.lt g hg).1
  simp at this; omega

def listE (M : DM) : List (List UInt8) := if M.down = true then [] else M.rise
theorem List_any {w : World} {F : Nat → Prop} {b : Nat} {M : DM} (h : Disk w F b M) : Calls Try.prog 26 #[.pointer (some ⟨b, 0, none⟩)] w fun e w' => ∃ v, e = .returned v ∧ w'.ownsRow 0 9 1 v (listE M).length ((listE M).map encStr) ∧ (∀ g, v.ownBlock = some g → w.heap.size ≤ g) ∧ Ext w w' := by
  have H := Lib.hid h
  obtain ⟨m, mo, fs, h⟩ := h
  obtain ⟨c0, c1, c2, c3, c4⟩ := h.cells
  clear h
  rcases Bool.eq_false_or_eq_true M.down with hd | hd
  · rw [hd] at c2
    have q : listE M = [] := by simp [listE, hd]
    rw [q]; clear q hd
    go_enter Try.func26, Try.ntmps26
    go_wp2
    go_ret
    exact ⟨_, rfl, World.ownsRow_nil _ _ _ _, fun g hg => by simp [Value.ownBlock] at hg, Ext.refl _⟩
  · rw [hd] at c2
    have q : listE M = M.rise := by simp [listE, hd]
    rw [q]; clear q hd
    go_enter Try.func26, Try.ntmps26
    go_wp2_with (go_at_call 52; refine (names_any H.out).mono ?_; rintro e w' ⟨v, rfl, ho, hf, hn, he⟩; have HO := Lib.hid ho; have HF := Lib.hid hf; clear ho hn hf)
    go_ret
    exact ⟨v, rfl, HO.out, HF.out, he⟩
end Go.Proofs.Ytjbalcfdenaneaa
