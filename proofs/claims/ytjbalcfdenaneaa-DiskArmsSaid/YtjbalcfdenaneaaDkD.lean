/- Walks: Sync, Remove, Rename. -/
import Derived.Test.YtjbalcfdenaneaaDkC
namespace Go.Proofs.Ytjbalcfdenaneaa
open Go Go.RowKit Go.ChangeMaps Mu
set_option maxRecDepth 100000
attribute [local go_sem] drew_heap get_alloc

/-- one file turned -/
def upd (l : List DF) (n : ByteArray) (g : DF → DF) : List DF := l.map (fun f => if f.name = n then g f else f)

theorem DiskR.keys {w : World} {F : Nat → Prop} {b m : Nat} {mo : Obj} {fs : List FRec} {M : DM} (h : DiskR w F b m mo fs M) : (fs.map (fun x => x.f.name)).Nodup := by
  obtain ⟨_, _, _, _, _, _, hn⟩ := h.at_
  rw [List.map_map] at hn; exact hn

theorem DiskR.split {w : World} {F : Nat → Prop} {b m : Nat} {mo : Obj} {fs : List FRec} {M : DM} (h : DiskR w F b m mo fs M) {x : FRec} (hx : x ∈ fs) :
    ∃ l1 l2, fs = l1 ++ x :: l2 ∧ (∀ y ∈ l1, y.f.name ≠ x.f.name) ∧ (∀ y ∈ l2, y.f.name ≠ x.f.name) := by
  obtain ⟨l1, l2, rfl⟩ := List.append_of_mem hx
  have hk := h.keys
  simp only [List.map_append, List.map_cons] at hk
  obtain ⟨_, h2, h3⟩ := List.nodup_append.1 hk
  refine ⟨l1, l2, rfl, fun y hy e => ?_, fun y hy e => ?_⟩
  · exact h3 _ (List.mem_map.2 ⟨y, hy, rfl⟩) _ (List.mem_cons_self) e
  · exact (List.nodup_cons.1 h2).1 (List.mem_map.2 ⟨y, hy, e⟩)

theorem upd_split {l1 l2 : List FRec} {x : FRec} (h1 : ∀ y ∈ l1, y.f.name ≠ x.f.name) (h2 : ∀ y ∈ l2, y.f.name ≠ x.f.name) (g : DF → DF) :
    upd ((l1 ++ x :: l2).map FRec.f) x.f.name g = l1.map FRec.f ++ g x.f :: l2.map FRec.f := by
  have e : ∀ l : List FRec, (∀ y ∈ l, y.f.name ≠ x.f.name) → upd (l.map FRec.f) x.f.name g = l.map FRec.f := fun l hl => by
    unfold upd; rw [List.map_map]; exact List.map_congr_left (fun y hy => by simp [hl y hy])
  simp only [upd, List.map_append, List.map_cons] at e ⊢
  rw [e l1 h1, e l2 h2]; simp

/-- one file in memory turned: its block, and perhaps its bytes' -/
theorem DiskR.upd {w w' : World} {F : Nat → Prop} {b m : Nat} {mo : Obj} {l1 l2 : List FRec} {x : FRec} {M M' : DM} (h : DiskR w F b m mo (l1 ++ x :: l2) M) (data : List UInt8) (v : Value) (s : Nat)
    (hk : Keeps (fun k => k ∈ x.foot) w w') (hb : w'.heap[x.blk]? = some (fileO v s)) (ho : w'.ownsRow 0 5 1 v data.length (encB data)) (hv : v.ownBlock = x.v.ownBlock ∨ ∀ g, v.ownBlock = some g → w.heap.size ≤ g)
    (hM : M' = { M with files := l1.map FRec.f ++ ⟨x.f.name, data, s⟩ :: l2.map FRec.f }) (hs : s ≤ data.length) (hu : used M'.files ≤ 67108864) :
    DiskR w' (grow F w w') b m mo (l1 ++ ⟨⟨x.f.name, data, s⟩, x.blk, v⟩ :: l2) M' := by
  have hin : ∀ k ∈ x.foot, k ∈ b :: m :: (l1 ++ x :: l2).flatMap FRec.foot := fun k hk => by simp [hk]
  have hnd := h.apart
  have e0 : ∀ y : FRec, b :: m :: (l1 ++ y :: l2).flatMap FRec.foot = (b :: m :: l1.flatMap FRec.foot) ++ (y.foot ++ l2.flatMap FRec.foot) := fun y => by simp
  have hperm : ∀ y : FRec, (b :: m :: (l1 ++ y :: l2).flatMap FRec.foot).Perm (y.foot ++ (b :: m :: (l1 ++ l2).flatMap FRec.foot)) := fun y => by
    rw [e0 y]
    have : b :: m :: (l1 ++ l2).flatMap FRec.foot = (b :: m :: l1.flatMap FRec.foot) ++ l2.flatMap FRec.foot := by simp
    rw [this, ← List.append_assoc, ← List.append_assoc]
    exact List.Perm.append_right _ List.perm_append_comm
  have hnd2 := (hperm x).nodup_iff.1 hnd
  obtain ⟨n1, n2, n3⟩ := List.nodup_append.1 hnd2
  have hall : ∀ k ∈ b :: m :: (l1 ++ l2).flatMap FRec.foot, w'.heap[k]? = w.heap[k]? := fun k hk' => by
    have hkm : k ∈ b :: m :: (l1 ++ x :: l2).flatMap FRec.foot := (hperm x).mem_iff.2 (List.mem_append_right _ hk')
    exact hk.block k (h.lt k hkm) (fun e => n3 k e k hk' rfl)
  have hsub : ∀ y, y ∈ l1 ∨ y ∈ l2 → ∀ k ∈ y.foot, k ∈ b :: m :: (l1 ++ l2).flatMap FRec.foot := fun y hy k hk => by
    simp only [List.mem_cons, List.mem_flatMap, List.mem_append]; exact .inr (.inr ⟨y, hy, hk⟩)
  have hold : ∀ y, y ∈ l1 ∨ y ∈ l2 → w'.heap[y.blk]? = some (fileO y.v y.f.syn) ∧ w'.ownsRow 0 5 1 y.v y.f.data.length (encB y.f.data) := fun y hy => by
    have hf := h.file y (by simp; rcases hy with h | h <;> simp [h])
    exact ⟨(hall y.blk (hsub y hy _ (by simp [FRec.foot]))).trans hf.1, owns_move hf.2 (fun k hk => hall k (hsub y hy _ (by simp [FRec.foot, hk])))⟩
  have hfoot : ∀ k ∈ (⟨⟨x.f.name, data, s⟩, x.blk, v⟩ : FRec).foot, k ∈ x.foot ∨ w.heap.size ≤ k := fun k hk => by
    simp only [FRec.foot, List.mem_cons, Option.mem_toList] at hk ⊢
    rcases hk with rfl | hk
    · exact .inl (.inl rfl)
    · rcases hv with hv | hv
      · exact .inl (.inr (by rw [← hv]; exact hk))
      · exact .inr (hv k hk)
  refine ⟨(hall b (by simp)).trans (by subst hM; exact h.blk), (hall m (by simp)).trans h.map, by have := h.at_; simpa [FRec.ent] using this, fun y hy => ?_, ?_, fun k hk' => ?_, by subst hM; simp, ⟨?_, ?_, ?_, ?_, ?_⟩, grow_lim h.lim hk.size⟩
  · rcases List.mem_append.1 hy with hy | hy
    · exact hold y (.inl hy)
    · rcases List.mem_cons.1 hy with rfl | hy
      · exact ⟨hb, ho⟩
      · exact hold y (.inr hy)
  · refine (hperm _).nodup_iff.2 (List.nodup_append.2 ⟨?_, n2, fun a ha c hc e => ?_⟩)
    · simp only [FRec.foot]
      cases hvb : v.ownBlock with
      | none => simp
      | some g =>
        simp only [Option.toList_some, List.nodup_cons, List.mem_singleton, List.not_mem_nil, not_false_eq_true, List.nodup_nil, and_self, and_true]
        rintro rfl
        rcases hv with hv | hv
        · rw [hvb] at hv; simp [FRec.foot, ← hv] at n1
        · have := hv _ hvb; have := lt_of_get hb; have := h.lt x.blk (hin _ (by simp [FRec.foot])); omega
    · subst e
      rcases hfoot a ha with h1 | h1
      · exact n3 a h1 a hc rfl
      · have := h.lt a ((hperm x).mem_iff.2 (List.mem_append_right _ hc)); omega
  · have := (hperm _).mem_iff.1 hk'
    rcases List.mem_append.1 this with h1 | h1
    · rcases hfoot k h1 with h2 | h2
      · exact .inl (h.foot k (hin k h2))
      · refine .inr ⟨h2, ?_⟩
        simp only [FRec.foot, List.mem_cons, Option.mem_toList] at h1
        rcases h1 with rfl | h1
        · exact lt_of_get hb
        · exact owns_lt ho h1
    · exact .inl (h.foot k ((hperm x).mem_iff.2 (List.mem_append_right _ h1)))
  · subst hM; exact h.ok.cap
  · subst hM; exact hu
  · subst hM; have := h.ok.many; rw [← h.files] at this; simpa using this
  · subst hM; have := h.ok.syn; rw [← h.files] at this
    intro f hf; simp at hf
    rcases hf with ⟨y, hy, rfl⟩ | rfl | ⟨y, hy, rfl⟩
    · exact this y.f (by simp; exact .inl ⟨y, hy, rfl⟩)
    · exact hs
    · exact this y.f (by simp; exact .inr (.inr ⟨y, hy, rfl⟩))
  · subst hM; have := h.ok.names; rw [← h.files] at this
    intro f hf; simp at hf
    rcases hf with ⟨y, hy, rfl⟩ | rfl | ⟨y, hy, rfl⟩
    · exact this y.f (by simp; exact .inl ⟨y, hy, rfl⟩)
    · exact this x.f (by simp)
    · exact this y.f (by simp; exact .inr (.inr ⟨y, hy, rfl⟩))

theorem used_append (a b : List DF) : used (a ++ b) = used a + used b := by simp [used]

/-- the boxes of a closure's disk and name -/
theorem cmd1_any (k : Nat) {w : World} {F : Nat → Prop} {b m bd bn : Nat} {mo : Obj} {fs : List FRec} {M : DM} (h : DiskR w F b m mo fs M) (n : ByteArray)
    (hd : w.heap[bd]? = some (boxD b)) (hn : w.heap[bn]? = some (boxS n)) (hk : k = 43 ∨ k = 46) :
    Calls Try.prog k #[.pointer (some ⟨bd, 0, none⟩), .pointer (some ⟨bn, 0, none⟩)] w fun e w' => e = .returned (.int .i64 (thereE M n)) ∧ Ext w w' := by
  have H := Lib.hid h
  have hcn : w.cell? ⟨bn, 0, none⟩ = some (.string n) := cell_of hn 0
  have hcd : w.cell? ⟨bd, 0, none⟩ = some (.pointer (some ⟨b, 0, none⟩)) := cell_of hd 0
  clear h hd hn
  rcases hk with rfl | rfl
  · go_enter Try.func43, Try.ntmps43
    go_wp2_with (go_at_call 44; refine (there_any H.out n).mono ?_; rintro e w' ⟨rfl, rfl⟩)
    go_ret
    exact ⟨rfl, Ext.refl _⟩
  · go_enter Try.func46, Try.ntmps46
    go_wp2_with (go_at_call 44; refine (there_any H.out n).mono ?_; rintro e w' ⟨rfl, rfl⟩)
    go_ret
    exact ⟨rfl, Ext.refl _⟩

def DM.sync (M : DM) (n : ByteArray) : DM := { M with files := upd M.files n (fun f => { f with syn := f.data.length }) }
theorem thereE_zero {M : DM} {n : ByteArray} (h : thereE M n = 0) : ∃ f, find M.files n = some f := by
  unfold thereE at h
  cases h2 : find M.files n <;> simp [h2] at h
  exact ⟨_, rfl⟩
theorem DiskR.there {w : World} {F : Nat → Prop} {b m : Nat} {mo : Obj} {fs : List FRec} {M : DM} (h : DiskR w F b m mo fs M) {n : ByteArray} (h0 : thereE M n = 0) :
    ∃ x ∈ fs, x.f.name = n ∧ find M.files n = some x.f ∧ aget (fs.map FRec.ent) n = some (.pointer (some ⟨x.blk, 0, none⟩)) := by
  obtain ⟨f, hf⟩ := thereE_zero h0
  rcases h.look n with ⟨h1, _⟩ | ⟨x, hx, h1, h2, h3⟩
  · rw [hf] at h1; cases h1
  · exact ⟨x, hx, h2, h1, h3⟩

theorem sync2_any {w : World} {F : Nat → Prop} {b m bd bn : Nat} {mo : Obj} {fs : List FRec} {M : DM} (h : DiskR w F b m mo fs M) (n : ByteArray) (h0 : thereE M n = 0)
    (hd : w.heap[bd]? = some (boxD b)) (hn : w.heap[bn]? = some (boxS n)) :
    Calls Try.prog 45 #[.pointer (some ⟨bd, 0, none⟩), .pointer (some ⟨bn, 0, none⟩)] w fun e w' => e = .returned (.tuple #[]) ∧ Disk w' (grow F w w') b (M.sync n) ∧ Keeps F w w' := by
  obtain ⟨x, hx, rfl, _, ha⟩ := h.there h0
  obtain ⟨l1, l2, rfl, q1, q2⟩ := h.split hx
  have hl := fun w' hw => h.lookup x.f.name w' hw
  rw [ha] at hl
  simp only [Option.getD_some] at hl
  obtain ⟨_, _, _, _, c4⟩ := h.cells
  have hcn : w.cell? ⟨bn, 0, none⟩ = some (.string x.f.name) := cell_of hn 0
  have hcd : w.cell? ⟨bd, 0, none⟩ = some (.pointer (some ⟨b, 0, none⟩)) := cell_of hd 0
  have hfile := h.file x hx
  obtain ⟨a, c, hv, hmax⟩ := owns_slice hfile.2
  have hF : ∀ k ∈ x.foot, F k := fun k hk => h.foot k (by simp [hk])
  have hc0 : w.cell? ⟨x.blk, 0, none⟩ = some (.slice a x.f.data.length c) := by have := cell_of hfile.1 0; rw [hv] at this; exact this
  have hc1 : w.cell? ⟨x.blk, 1, none⟩ = some (.int .i64 x.f.syn) := cell_of hfile.1 1
  have hf1 := free_of hfile.1 1
  have hk : Keeps (fun k => k ∈ x.foot) w (w.setCell ⟨x.blk, 1, none⟩ (.int .i64 x.f.data.length)) := (Keeps.refl (fun k => k ∈ x.foot) w).setCell (.inl (by simp [FRec.foot])) _
  have hb : (w.setCell ⟨x.blk, 1, none⟩ (.int .i64 x.f.data.length)).heap[x.blk]? = some (fileO x.v x.f.data.length) := get_setCell _ hfile.1
  have hne : ∀ g, x.v.ownBlock = some g → g ≠ x.blk := fun g hg e => by
    subst e
    have := h.apart
    simp only [List.flatMap_append, List.flatMap_cons, FRec.foot, hg, Option.toList_some] at this
    have h3 := (List.nodup_cons.1 (List.nodup_cons.1 this).2).2
    have h4 := (List.nodup_append.1 h3).2.1
    simp at h4
  have ho : (w.setCell ⟨x.blk, 1, none⟩ (.int .i64 x.f.data.length)).ownsRow 0 5 1 x.v x.f.data.length (encB x.f.data) := owns_move hfile.2 (fun k hkk => Below.heap_setCell _ _ _ _ (hne k hkk))
  have R := h.upd (M' := M.sync x.f.name) x.f.data x.v x.f.data.length hk hb ho (.inl rfl) (by simp only [DM.sync]; rw [← h.files, upd_split q1 q2]) (Nat.le_refl _) (by
    have := h.ok.used; simp only [DM.sync]; rw [← h.files] at this ⊢; rw [upd_split q1 q2]; simp [used] at this ⊢; omega)
  have HR := Lib.hid R; have HK := Lib.hid hk; have HF := Lib.hid hF
  clear R hk hb ho hne hfile hv q1 q2 hx h0 h ha hF
  go_enter Try.func45, Try.ntmps45
  go_wp2
  refine wp_region_sig (tg [1,0,0,1,1,1,0]) [0,1,2,3,4,5,6] (by kernel_rfl) (by kernel_rfl) ?_
  repeat (first | (refine sig_p rfl rfl (fun K hK => ?_); go_simp; refine hK _ ?_; clear hK K) | (refine sig_q rfl rfl (fun K hK => ?_); go_simp; refine hK _ ?_; clear hK K))
  refine sig_nil ?_
  go_wp2
  go_end0
  exact ⟨rfl, ⟨m, mo, _, HR.out.drew⟩, HK.out.drew.mono (fun k _ e => HF.out k e)⟩

theorem Sync_any {w : World} {F : Nat → Prop} {b : Nat} {M : DM} (h : Disk w F b M) (hst : M.steps ≤ 1000000000) (ha : M.armed ≤ 9223372036854775807) (n : ByteArray) :
    Calls Try.prog 19 #[.pointer (some ⟨b, 0, none⟩), .string n] w fun e w' => e = .returned (.int .i64 (cmdE M (thereE M n))) ∧ Disk w' (grow F w w') b (M.cmd (M.go.sync n) (thereE M n)) ∧ Keeps F w w' := by
  have H := Lib.hid h
  have e1 : Ext w ((w.alloc (boxD b)).alloc (boxS n)) := ((Ext.refl w).alloc (Nat.le_refl _) _).alloc (by simp) _
  have hbd : ((w.alloc (boxD b)).alloc (boxS n)).heap[w.heap.size]? = some (boxD b) := get_alloc _ (get_new w _)
  have hbn : ((w.alloc (boxD b)).alloc (boxS n)).heap[w.heap.size + 1]? = some (boxS n) := by have := get_new (w.alloc (boxD b)) (boxS n); simpa using this
  have hc := command_any (h.ext e1) hst ha 43 45 #[.pointer (some ⟨w.heap.size, 0, none⟩), .pointer (some ⟨w.heap.size + 1, 0, none⟩)] #[.pointer (some ⟨w.heap.size, 0, none⟩), .pointer (some ⟨w.heap.size + 1, 0, none⟩)] (thereE M n) (M3 := M.go.sync n)
    (ent_of Try.func43 (by kernel_rfl) rfl) (ent_of Try.func45 (by kernel_rfl) rfl)
    (fun _ => by obtain ⟨m, mo, fs, hR⟩ := h.ext e1; exact cmd1_any _ hR n hbd hbn (by decide))
    (fun _ hx _ w2 hD hK => by
      have hnF : ∀ k, w.heap.size ≤ k → ¬ F k := fun k hk hf => by have := h.lim k hf; omega
      obtain ⟨m, mo, fs, hR⟩ := hD
      refine (sync2_any hR n hx (hK.get hbd (hnF _ (Nat.le_refl _))) (hK.get hbn (hnF _ (by omega)))).mono ?_
      rintro e w3 ⟨rfl, d3, k3⟩
      exact ⟨rfl, d3.mono (fun k hk => hk.imp id (fun h2 => ⟨Nat.le_trans hK.size h2.1, h2.2⟩)) (grow_lim (h.ext e1).lim (Nat.le_trans hK.size k3.size)), k3⟩)
  have HC := Lib.hid hc; have HE := Lib.hid e1
  clear hc h hst ha hbd hbn e1
  simp only [boxD, boxS] at HC HE
  go_enter Try.func19, Try.ntmps19
  go_wp2_with fail
  refine HC.out.mono ?_
  rintro e w1 ⟨rfl, hD, hK⟩
  have HD := Lib.hid hD; have HK := Lib.hid hK
  clear hD hK
  go_wp2_with fail
  go_ret
  have hs := HE.out.size
  exact ⟨rfl, HD.out.mono (fun k hk => hk.imp id (fun h2 => ⟨Nat.le_trans hs h2.1, h2.2⟩)) (grow_lim H.out.lim (Nat.le_trans hs HK.out.size)), (Keeps.of_ext HE.out).trans HK.out (fun _ _ h => h)⟩

def DM.remove (M : DM) (n : ByteArray) : DM := { M with files := M.files.filter (fun f => decide (f.name ≠ n)) }
theorem adel_ent (l1 l2 : List FRec) (x : FRec) (h1 : ∀ y ∈ l1, y.f.name ≠ x.f.name) (h2 : ∀ y ∈ l2, y.f.name ≠ x.f.name) : adel ((l1 ++ x :: l2).map FRec.ent) x.f.name = (l1 ++ l2).map FRec.ent := by
  have e : ∀ l : List FRec, (∀ y ∈ l, y.f.name ≠ x.f.name) → (l.map FRec.ent).filter (fun p => decide (p.1 ≠ x.f.name)) = l.map FRec.ent := fun l hl =>
    List.filter_eq_self.2 (fun p hp => by obtain ⟨y, hy, rfl⟩ := List.mem_map.1 hp; exact decide_eq_true (hl y hy))
  unfold adel
  rw [List.map_append, List.map_cons, List.filter_append, List.filter_cons, e l1 h1, e l2 h2]
  simp [FRec.ent]
theorem filter_split {l1 l2 : List FRec} {x : FRec} (h1 : ∀ y ∈ l1, y.f.name ≠ x.f.name) (h2 : ∀ y ∈ l2, y.f.name ≠ x.f.name) :
    ((l1 ++ x :: l2).map FRec.f).filter (fun f => decide (f.name ≠ x.f.name)) = (l1 ++ l2).map FRec.f := by
  have e : ∀ l : List FRec, (∀ y ∈ l, y.f.name ≠ x.f.name) → (l.map FRec.f).filter (fun f => decide (f.name ≠ x.f.name)) = l.map FRec.f := fun l hl =>
    List.filter_eq_self.2 (fun p hp => by obtain ⟨y, hy, rfl⟩ := List.mem_map.1 hp; exact decide_eq_true (hl y hy))
  rw [List.map_append, List.map_cons, List.filter_append, List.filter_cons, e l1 h1, e l2 h2]
  simp

/-- a file fewer -/
theorem DiskR.remove {w w' : World} {F : Nat → Prop} {b m : Nat} {mo mo' : Obj} {l1 l2 : List FRec} {x : FRec} {M : DM} (h : DiskR w F b m mo (l1 ++ x :: l2) M)
    (hk : Keeps (fun k => k = m) w w') (hm : w'.heap[m]? = some mo') (hma : MapAt Value.string mo' ((l1 ++ l2).map FRec.ent)) : DiskR w' (grow F w w') b m mo' (l1 ++ l2) { M with files := (l1 ++ l2).map FRec.f } := by
  have hsl : (l1 ++ l2).Sublist (l1 ++ x :: l2) := List.Sublist.append_left (List.sublist_cons_self _ _) _
  have hsf : ((l1 ++ l2).flatMap FRec.foot).Sublist ((l1 ++ x :: l2).flatMap FRec.foot) := by
    simp only [List.flatMap_append, List.flatMap_cons]
    exact List.Sublist.append_left (List.sublist_append_right _ _) _
  have hss : (b :: m :: (l1 ++ l2).flatMap FRec.foot).Sublist (b :: m :: (l1 ++ x :: l2).flatMap FRec.foot) := (hsf.cons_cons m).cons_cons b
  have hnd := h.apart.sublist hss
  have hall : ∀ k ∈ b :: (l1 ++ l2).flatMap FRec.foot, w'.heap[k]? = w.heap[k]? := fun k hk' => by
    have hkm : k ∈ b :: m :: (l1 ++ l2).flatMap FRec.foot := by simp at hk' ⊢; rcases hk' with h | h <;> simp [h]
    refine hk.block k (h.lt k (hss.subset hkm)) (fun e => ?_)
    subst e
    have h1 := List.nodup_cons.1 hnd
    rcases List.mem_cons.1 hk' with e | e
    · subst e; exact h1.1 (by simp)
    · exact (List.nodup_cons.1 h1.2).1 e
  have hsub : ∀ y ∈ l1 ++ l2, ∀ k ∈ y.foot, k ∈ b :: (l1 ++ l2).flatMap FRec.foot := fun y hy k hk => List.mem_cons_of_mem _ (List.mem_flatMap.2 ⟨y, hy, hk⟩)
  have hfs := h.files
  refine ⟨(hall b (by simp)).trans h.blk, hm, hma, fun y hy => ?_, hnd, fun k hk' => .inl (h.foot k (hss.subset hk')), rfl, ⟨h.ok.cap, ?_, ?_, ?_, ?_⟩, grow_lim h.lim hk.size⟩
  · exact ⟨(hall y.blk (hsub y hy _ (by simp [FRec.foot]))).trans (h.file y (hsl.subset hy)).1, owns_move (h.file y (hsl.subset hy)).2 (fun k hk => hall k (hsub y hy _ (by simp [FRec.foot, hk])))⟩
  · have := h.ok.used; rw [← hfs] at this; simp [used] at this ⊢; omega
  · have := h.ok.many; rw [← hfs] at this; simp at this ⊢; omega
  · intro f hf; exact h.ok.syn f (by rw [← hfs]; exact (hsl.map _).subset hf)
  · intro f hf; exact h.ok.names f (by rw [← hfs]; exact (hsl.map _).subset hf)

theorem remove2_any {w : World} {F : Nat → Prop} {b m bd bn : Nat} {mo : Obj} {fs : List FRec} {M : DM} (h : DiskR w F b m mo fs M) (n : ByteArray) (h0 : thereE M n = 0)
    (hd : w.heap[bd]? = some (boxD b)) (hn : w.heap[bn]? = some (boxS n)) :
    Calls Try.prog 47 #[.pointer (some ⟨bd, 0, none⟩), .pointer (some ⟨bn, 0, none⟩)] w fun e w' => e = .returned (.tuple #[]) ∧ Disk w' (grow F w w') b (M.remove n) ∧ Keeps F w w' := by
  obtain ⟨x, hx, rfl, _, ha⟩ := h.there h0
  obtain ⟨l1, l2, rfl, q1, q2⟩ := h.split hx
  obtain ⟨_, _, _, _, c4⟩ := h.cells
  have hcn : w.cell? ⟨bn, 0, none⟩ = some (.string x.f.name) := cell_of hn 0
  have hcd : w.cell? ⟨bd, 0, none⟩ = some (.pointer (some ⟨b, 0, none⟩)) := cell_of hd 0
  have hFm : F m := h.foot m (by simp)
  obtain ⟨mo', hrun, hma⟩ := run_delete_at (P := Try.prog) (t2 := 9) (ty := 0) (w := w.drew) skey Try.underlying49 h.map h.at_ x.f.name
  rw [adel_ent l1 l2 x q1 q2] at hma
  obtain ⟨w2, hw2⟩ : ∃ w2, w2 = setBlock w.drew m mo' := ⟨_, rfl⟩
  have hk : Keeps (fun k => k = m) w w2 := by rw [hw2]; exact ((Keeps.refl (fun k => k = m) w).drew).setBlock (.inl rfl) _
  have R := h.remove hk (by rw [hw2]; exact get_setBlock _ h.drew.map) hma
  have e : ({ M with files := (l1 ++ l2).map FRec.f } : DM) = M.remove x.f.name := by simp only [DM.remove]; rw [← h.files, filter_split q1 q2]
  rw [e] at R
  rw [← hw2] at hrun
  have HR := Lib.hid R; have HK := Lib.hid hk
  clear R hk hw2 hma h0 h ha q1 q2 hx hd hn e
  go_enter Try.func47, Try.ntmps47
  go_wp2
  refine wp_region_sig (tg [1,0,0,1,1,3]) [0,1,2,3,4,5] (by kernel_rfl) (by kernel_rfl) ?_
  repeat (first | (refine sig_p rfl rfl (fun K hK => ?_); go_simp; refine hK _ ?_; clear hK K) | (refine sig_q rfl rfl (fun K hK => ?_); go_simp; refine hK _ ?_; clear hK K))
  refine sig_e0 rfl rfl (fun K hK => ?_)
  go_simp
  refine hK _ _ ?_; clear hK K
  refine sig_nil ?_
  go_wp2
  go_end0
  exact ⟨rfl, ⟨m, mo', _, HR.out⟩, HK.out.mono (fun k _ e => by rw [e]; exact hFm)⟩

theorem Remove_any {w : World} {F : Nat → Prop} {b : Nat} {M : DM} (h : Disk w F b M) (hst : M.steps ≤ 1000000000) (ha : M.armed ≤ 9223372036854775807) (n : ByteArray) :
    Calls Try.prog 20 #[.pointer (some ⟨b, 0, none⟩), .string n] w fun e w' => e = .returned (.int .i64 (cmdE M (thereE M n))) ∧ Disk w' (grow F w w') b (M.cmd (M.go.remove n) (thereE M n)) ∧ Keeps F w w' := by
  have H := Lib.hid h
  have e1 : Ext w ((w.alloc (boxD b)).alloc (boxS n)) := ((Ext.refl w).alloc (Nat.le_refl _) _).alloc (by simp) _
  have hbd : ((w.alloc (boxD b)).alloc (boxS n)).heap[w.heap.size]? = some (boxD b) := get_alloc _ (get_new w _)
  have hbn : ((w.alloc (boxD b)).alloc (boxS n)).heap[w.heap.size + 1]? = some (boxS n) := by have := get_new (w.alloc (boxD b)) (boxS n); simpa using this
  have hc := command_any (h.ext e1) hst ha 46 47 #[.pointer (some ⟨w.heap.size, 0, none⟩), .pointer (some ⟨w.heap.size + 1, 0, none⟩)] #[.pointer (some ⟨w.heap.size, 0, none⟩), .pointer (some ⟨w.heap.size + 1, 0, none⟩)] (thereE M n) (M3 := M.go.remove n)
    (ent_of Try.func46 (by kernel_rfl) rfl) (ent_of Try.func47 (by kernel_rfl) rfl)
    (fun _ => by obtain ⟨m, mo, fs, hR⟩ := h.ext e1; exact cmd1_any _ hR n hbd hbn (by decide))
    (fun _ hx _ w2 hD hK => by
      have hnF : ∀ k, w.heap.size ≤ k → ¬ F k := fun k hk hf => by have := h.lim k hf; omega
      obtain ⟨m, mo, fs, hR⟩ := hD
      refine (remove2_any hR n hx (hK.get hbd (hnF _ (Nat.le_refl _))) (hK.get hbn (hnF _ (by omega)))).mono ?_
      rintro e w3 ⟨rfl, d3, k3⟩
      exact ⟨rfl, d3.mono (fun k hk => hk.imp id (fun h2 => ⟨Nat.le_trans hK.size h2.1, h2.2⟩)) (grow_lim (h.ext e1).lim (Nat.le_trans hK.size k3.size)), k3⟩)
  have HC := Lib.hid hc; have HE := Lib.hid e1
  clear hc h hst ha hbd hbn e1
  simp only [boxD, boxS] at HC HE
  go_enter Try.func20, Try.ntmps20
  go_wp2_with fail
  refine HC.out.mono ?_
  rintro e w1 ⟨rfl, hD, hK⟩
  have HD := Lib.hid hD; have HK := Lib.hid hK
  clear hD hK
  go_wp2_with fail
  go_ret
  have hs := HE.out.size
  exact ⟨rfl, HD.out.mono (fun k hk => hk.imp id (fun h2 => ⟨Nat.le_trans hs h2.1, h2.2⟩)) (grow_lim H.out.lim (Nat.le_trans hs HK.out.size)), (Keeps.of_ext HE.out).trans HK.out (fun _ _ h => h)⟩
end Go.Proofs.Ytjbalcfdenaneaa
