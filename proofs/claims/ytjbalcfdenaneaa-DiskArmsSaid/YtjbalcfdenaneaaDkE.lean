/- Walks: Rename. -/
import Derived.Test.YtjbalcfdenaneaaDkD
namespace Go.Proofs.Ytjbalcfdenaneaa
open Go Go.RowKit Go.ChangeMaps Mu
set_option maxRecDepth 100000
attribute [local go_sem] drew_heap get_alloc

abbrev Core := Nat × Value × List UInt8 × Nat
def FRec.core (x : FRec) : Core := (x.blk, x.v, x.f.data, x.f.syn)
def footC (c : Core) : List Nat := c.1 :: c.2.1.ownBlock.toList
theorem foot_core (l : List FRec) : l.flatMap FRec.foot = (l.map FRec.core).flatMap footC := by
  rw [List.flatMap_map]; rfl
def usedC (l : List Core) : Nat := (l.map (fun c => c.2.2.1.length)).sum
theorem used_core (l : List FRec) : used (l.map FRec.f) = usedC (l.map FRec.core) := by
  simp only [used, usedC, List.map_map]; rfl
theorem usedC_sub {a b : List Core} (h : a.Sublist b) : usedC a ≤ usedC b := by
  induction h with
  | slnil => exact Nat.le_refl _
  | cons x h ih => simp only [usedC, List.map_cons, List.sum_cons] at ih ⊢; omega
  | cons_cons x h ih => simp only [usedC, List.map_cons, List.sum_cons] at ih ⊢; omega

theorem flatMap_sub {α β : Type} (g : α → List β) {a b : List α} (h : a.Sublist b) : (a.flatMap g).Sublist (b.flatMap g) := by
  induction h with
  | slnil => exact List.Sublist.refl _
  | cons x h ih => rw [List.flatMap_cons]; exact ih.trans (List.sublist_append_right _ _)
  | cons_cons x h ih => rw [List.flatMap_cons, List.flatMap_cons]; exact List.Sublist.append_left ih _

/-- the files, listed anew: other names, some fewer -/
theorem DiskR.relist {w w' : World} {F : Nat → Prop} {b m : Nat} {mo mo' : Obj} {fs nl : List FRec} {M : DM} (h : DiskR w F b m mo fs M) (l' : List Core) (hp : (nl.map FRec.core).Perm l') (hs : l'.Sublist (fs.map FRec.core))
    (hk : Keeps (fun k => k = m) w w') (hm : w'.heap[m]? = some mo') (hma : MapAt Value.string mo' (nl.map FRec.ent)) (hn : ∀ y ∈ nl, y.f.name.size ≤ 64) : DiskR w' (grow F w w') b m mo' nl { M with files := nl.map FRec.f } := by
  have hss : (b :: m :: l'.flatMap footC).Sublist (b :: m :: fs.flatMap FRec.foot) := by rw [foot_core]; exact ((flatMap_sub footC hs).cons_cons m).cons_cons b
  have hpf : (b :: m :: nl.flatMap FRec.foot).Perm (b :: m :: l'.flatMap footC) := by rw [foot_core]; exact ((hp.flatMap_right footC).cons m).cons b
  have hnd := hpf.nodup_iff.2 (h.apart.sublist hss)
  have hall : ∀ k ∈ b :: nl.flatMap FRec.foot, w'.heap[k]? = w.heap[k]? := fun k hk' => by
    have hkm : k ∈ b :: m :: nl.flatMap FRec.foot := by
      rcases List.mem_cons.1 hk' with e | e
      · subst e; simp
      · exact List.mem_cons_of_mem _ (List.mem_cons_of_mem _ e)
    refine hk.block k (h.lt k (hss.subset (hpf.subset hkm))) (fun e => ?_)
    subst e
    have h1 := List.nodup_cons.1 hnd
    rcases List.mem_cons.1 hk' with e | e
    · subst e; exact h1.1 (by simp)
    · exact (List.nodup_cons.1 h1.2).1 e
  have hsub : ∀ y ∈ nl, ∀ k ∈ y.foot, k ∈ b :: nl.flatMap FRec.foot := fun y hy k hk => List.mem_cons_of_mem _ (List.mem_flatMap.2 ⟨y, hy, hk⟩)
  have hcore : ∀ y ∈ nl, ∃ x ∈ fs, x.core = y.core := fun y hy => by
    have h1 := hs.subset (hp.subset (List.mem_map.2 ⟨y, hy, rfl⟩))
    obtain ⟨x, hx, he⟩ := List.mem_map.1 h1
    exact ⟨x, hx, he⟩
  have hfs := h.files
  refine ⟨(hall b (by simp)).trans h.blk, hm, hma, fun y hy => ?_, hnd, fun k hk' => .inl (h.foot k (hss.subset (hpf.subset hk'))), rfl, ⟨h.ok.cap, ?_, ?_, ?_, ?_⟩, grow_lim h.lim hk.size⟩
  · obtain ⟨x, hx, he⟩ := hcore y hy
    simp only [FRec.core, Prod.mk.injEq] at he
    obtain ⟨e1, e2, e3, e4⟩ := he
    have hf := h.file x hx
    rw [e1, e2, e3, e4] at hf
    exact ⟨(hall y.blk (hsub y hy _ (by simp [FRec.foot]))).trans hf.1, owns_move hf.2 (fun k hk => hall k (hsub y hy _ (by simp [FRec.foot, hk])))⟩
  · have h1 := h.ok.used
    have h2 := usedC_sub hs
    have h3 : usedC (nl.map FRec.core) = usedC l' := by unfold usedC; exact (hp.map _).sum_nat
    rw [← hfs, used_core] at h1
    show used (nl.map FRec.f) ≤ 67108864
    rw [used_core, h3]; omega
  · have h1 := h.ok.many
    rw [← hfs] at h1
    have h2 := hp.length_eq; have h3 := hs.length_le
    simp at h1 h2 h3 ⊢; omega
  · intro f hf
    obtain ⟨y, hy, rfl⟩ := List.mem_map.1 hf
    obtain ⟨x, hx, he⟩ := hcore y hy
    simp only [FRec.core, Prod.mk.injEq] at he
    have := h.ok.syn x.f (by rw [← hfs]; exact List.mem_map.2 ⟨x, hx, rfl⟩)
    rw [he.2.2.1, he.2.2.2] at this; exact this
  · intro f hf; obtain ⟨y, hy, rfl⟩ := List.mem_map.1 hf; exact hn y hy

def renameE (M : DM) (a t : ByteArray) : Int := if thereE M a = 14 then 14 else if okName t = false then 25 else 0
def DM.rename (M : DM) (a t : ByteArray) : DM :=
  match find M.files a with
  | none => M
  | some f =>
    let rest := M.files.filter (fun g => decide (g.name ≠ a))
    { M with files := if (find rest t).isSome then upd rest t (fun _ => ⟨t, f.data, f.syn⟩) else rest ++ [⟨t, f.data, f.syn⟩] }

theorem rename1_any {w : World} {F : Nat → Prop} {b m bd bn bt : Nat} {mo : Obj} {fs : List FRec} {M : DM} (h : DiskR w F b m mo fs M) (n t : ByteArray) (ht : t.size ≤ maxLen)
    (hd : w.heap[bd]? = some (boxD b)) (hn : w.heap[bn]? = some (boxS n)) (hbt : w.heap[bt]? = some (boxS t)) :
    Calls Try.prog 48 #[.pointer (some ⟨bd, 0, none⟩), .pointer (some ⟨bn, 0, none⟩), .pointer (some ⟨bt, 0, none⟩)] w fun e w' => e = .returned (.int .i64 (renameE M n t)) ∧ Ext w w' := by
  have H := Lib.hid h
  have hcn : w.cell? ⟨bn, 0, none⟩ = some (.string n) := cell_of hn 0
  have hct : w.cell? ⟨bt, 0, none⟩ = some (.string t) := cell_of hbt 0
  have hcd : w.cell? ⟨bd, 0, none⟩ = some (.pointer (some ⟨b, 0, none⟩)) := cell_of hd 0
  clear h hd hn hbt
  by_cases h0 : thereE M n = 14
  · have hE : renameE M n t = 14 := by simp [renameE, h0]
    rw [hE]; clear hE
    go_enter Try.func48, Try.ntmps48
    go_wp2_with (go_at_call 44; refine (there_any H.out n).mono ?_; rw [h0]; rintro e w' ⟨rfl, rfl⟩)
    go_ret
    exact ⟨rfl, Ext.refl _⟩
  · have h00 : thereE M n = 0 := by unfold thereE at h0 ⊢; split <;> simp_all
    rcases Bool.eq_false_or_eq_true (okName t) with ho | ho
    all_goals
      have hE : renameE M n t = if okName t = false then 25 else 0 := by simp [renameE, h0]
      rw [hE, ho]; simp only [Bool.true_eq_false, if_true, if_false]; clear hE h0
      go_enter Try.func48, Try.ntmps48
      go_wp2_with (first | (go_at_call 44; refine (there_any H.out n).mono ?_; rw [h00]; rintro e w' ⟨rfl, rfl⟩) | (go_at_call 31; refine (Name_any _ _ ht).mono ?_; rw [ho]; rintro e w1 ⟨rfl, he⟩))
      go_ret
      exact ⟨rfl, ‹Ext _ _›⟩

theorem aput_at {l1 l2 : List FRec} {y : FRec} (h1 : ∀ z ∈ l1, z.f.name ≠ y.f.name) (v : Value) : aput ((l1 ++ y :: l2).map FRec.ent) y.f.name v = l1.map FRec.ent ++ (y.f.name, v) :: l2.map FRec.ent := by
  unfold aput
  rcases afind_spec y.f.name ((l1 ++ y :: l2).map FRec.ent) 0 with ⟨_, _, a3⟩ | ⟨j, u, a1, a2, a3, a4⟩
  · exact absurd rfl (a3 y.ent (by simp))
  · rw [a1]
    have hj : j = l1.length := by
      rcases Nat.lt_trichotomy j l1.length with hlt | he | hgt
      · exfalso
        rw [List.map_append, List.getElem?_append_left (by simpa using hlt), List.getElem?_map] at a3
        obtain ⟨z, hz, hz2⟩ := Option.map_eq_some_iff.1 a3
        simp only [FRec.ent, Prod.mk.injEq] at hz2
        exact h1 z (List.mem_of_getElem? hz) hz2.1
      · exact he
      · exfalso
        exact a4 l1.length hgt y.ent (by simp) rfl
    subst hj
    simp

theorem rename2_any {w : World} {F : Nat → Prop} {b m bd bn bt : Nat} {mo : Obj} {fs : List FRec} {M : DM} (h : DiskR w F b m mo fs M) (n t : ByteArray) (h0 : thereE M n = 0) (ht : t.size ≤ 64)
    (hd : w.heap[bd]? = some (boxD b)) (hn : w.heap[bn]? = some (boxS n)) (hbt : w.heap[bt]? = some (boxS t)) :
    Calls Try.prog 49 #[.pointer (some ⟨bd, 0, none⟩), .pointer (some ⟨bn, 0, none⟩), .pointer (some ⟨bt, 0, none⟩)] w fun e w' => e = .returned (.tuple #[]) ∧ Disk w' (grow F w w') b (M.rename n t) ∧ Keeps F w w' := by
  obtain ⟨x, hx, rfl, hfd, ha⟩ := h.there h0
  obtain ⟨l1, l2, rfl, q1, q2⟩ := h.split hx
  obtain ⟨_, _, _, _, c4⟩ := h.cells
  have hl := fun w' hw => h.lookup x.f.name w' hw
  rw [ha] at hl
  simp only [Option.getD_some] at hl
  have hcn : w.cell? ⟨bn, 0, none⟩ = some (.string x.f.name) := cell_of hn 0
  have hct : w.cell? ⟨bt, 0, none⟩ = some (.string t) := cell_of hbt 0
  have hcd : w.cell? ⟨bd, 0, none⟩ = some (.pointer (some ⟨b, 0, none⟩)) := cell_of hd 0
  have hFm : F m := h.foot m (by simp)
  obtain ⟨mo1, hrun, hma⟩ := run_delete_at (P := Try.prog) (t2 := 9) (ty := 0) (w := w.drew.drew) skey Try.underlying49 h.map h.at_ x.f.name
  rw [adel_ent l1 l2 x q1 q2] at hma
  obtain ⟨w1, hw1⟩ : ∃ w1, w1 = setBlock w.drew.drew m mo1 := ⟨_, rfl⟩
  have hm1 : w1.heap[m]? = some mo1 := by rw [hw1]; exact get_setBlock _ h.drew.map
  have hmne : ∀ k o, w.heap[k]? = some o → k ≠ m → w1.heap[k]? = some o := fun k o hk hne => by rw [hw1]; exact get_setBlock_ne (w := w.drew.drew) _ hk hne
  have hmobj : ∃ es c, mo = .map es c := by obtain ⟨es, c, rfl, _⟩ := h.at_; exact ⟨es, c, rfl⟩
  have hnm : ∀ k c T f, w.heap[k]? = some (.cells c T f) → k ≠ m := fun k c T f hk e => by
    subst e; obtain ⟨es, cl, rfl⟩ := hmobj; rw [h.map] at hk; cases hk
  have d1 : w1.cell? ⟨bd, 0, none⟩ = some (.pointer (some ⟨b, 0, none⟩)) := cell_of (hmne _ _ hd (hnm _ _ _ _ hd)) 0
  have d2 : w1.cell? ⟨bt, 0, none⟩ = some (.string t) := cell_of (hmne _ _ hbt (hnm _ _ _ _ hbt)) 0
  have d3 : w1.cell? ⟨b, 4, none⟩ = some (.map (some m)) := cell_of (hmne _ _ h.blk (hnm _ _ _ _ h.blk)) 4
  obtain ⟨mo2, hrun2, hma2⟩ := run_mapUpdate_at (P := Try.prog) (w := w1.drew) skey Try.underlying49 hm1 hma t (.pointer (some ⟨x.blk, 0, none⟩))
  obtain ⟨w2, hw2⟩ : ∃ w2, w2 = setBlock w1.drew m mo2 := ⟨_, rfl⟩
  have hk : Keeps (fun k => k = m) w w2 := by
    rw [hw2, hw1]
    exact ((((Keeps.refl (fun k => k = m) w).drew.drew).setBlock (.inl rfl) _).drew).setBlock (.inl rfl) _
  have hm2 : w2.heap[m]? = some mo2 := by rw [hw2]; exact get_setBlock _ hm1
  have R : Disk w2 (grow F w w2) b (M.rename x.f.name t) := by
    have hrest : M.files.filter (fun g => decide (g.name ≠ x.f.name)) = (l1 ++ l2).map FRec.f := by rw [← h.files, filter_split q1 q2]
    have hnames : ∀ y ∈ l1 ++ x :: l2, y.f.name.size ≤ 64 := fun y hy => h.ok.names y.f (by rw [← h.files]; exact List.mem_map.2 ⟨y, hy, rfl⟩)
    have hsub : (l1 ++ l2).Sublist (l1 ++ x :: l2) := List.Sublist.append_left (List.sublist_cons_self _ _) _
    by_cases hin : ∃ y ∈ l1 ++ l2, y.f.name = t
    · obtain ⟨y, hy, rfl⟩ := hin
      obtain ⟨r1, r2, hr⟩ := List.append_of_mem hy
      have hkeys : ((l1 ++ l2).map (fun x => x.f.name)).Nodup := h.keys.sublist (hsub.map _)
      rw [hr] at hkeys hma2 hrest hsub
      simp only [List.map_append, List.map_cons] at hkeys
      obtain ⟨_, k2, k3⟩ := List.nodup_append.1 hkeys
      have p1 : ∀ z ∈ r1, z.f.name ≠ y.f.name := fun z hz e => k3 _ (List.mem_map.2 ⟨z, hz, rfl⟩) _ (List.mem_cons_self) e
      have p2 : ∀ z ∈ r2, z.f.name ≠ y.f.name := fun z hz e => (List.nodup_cons.1 k2).1 (List.mem_map.2 ⟨z, hz, e⟩)
      rw [aput_at p1] at hma2
      have hM : M.rename x.f.name y.f.name = { M with files := (r1 ++ (⟨⟨y.f.name, x.f.data, x.f.syn⟩, x.blk, x.v⟩ : FRec) :: r2).map FRec.f } := by
        have hfs : (find ((r1 ++ y :: r2).map FRec.f) y.f.name).isSome = true := by
          unfold find; rw [List.find?_isSome]; exact ⟨y.f, by simp, by simp⟩
        simp only [DM.rename, hfd, hrest, hfs, if_true]
        rw [upd_split p1 p2]; simp
      rw [hM]
      have hxy : x.f.name ≠ y.f.name := fun e => by
        rcases List.mem_append.1 hy with h1 | h1
        · exact q1 y h1 e.symm
        · exact q2 y h1 e.symm
      have fil : ∀ l : List FRec, (∀ z ∈ l, z.f.name ≠ y.f.name) → l.filter (fun z => decide (z.f.name ≠ y.f.name)) = l := fun l hl => List.filter_eq_self.2 (fun z hz => decide_eq_true (hl z hz))
      have hfil : (l1 ++ x :: l2).filter (fun z => decide (z.f.name ≠ y.f.name)) = l1.filter (fun z => decide (z.f.name ≠ y.f.name)) ++ x :: l2.filter (fun z => decide (z.f.name ≠ y.f.name)) := by
        rw [List.filter_append, List.filter_cons, if_pos (decide_eq_true hxy)]
      have hfil2 : l1.filter (fun z => decide (z.f.name ≠ y.f.name)) ++ l2.filter (fun z => decide (z.f.name ≠ y.f.name)) = r1 ++ r2 := by
        rw [← List.filter_append, hr, List.filter_append, List.filter_cons, fil r1 p1, fil r2 p2]; simp
      refine ⟨m, mo2, _, h.relist (((l1 ++ x :: l2).filter (fun z => decide (z.f.name ≠ y.f.name))).map FRec.core) ?_ (List.filter_sublist.map _) hk hm2 (by simpa [FRec.ent] using hma2) ?_⟩
      · have e1 : (r1 ++ (⟨⟨y.f.name, x.f.data, x.f.syn⟩, x.blk, x.v⟩ : FRec) :: r2).map FRec.core = (r1 ++ x :: r2).map FRec.core := by simp [FRec.core]
        rw [e1, hfil]
        refine List.Perm.map _ ?_
        refine List.perm_middle.trans ((List.Perm.cons x ?_).trans List.perm_middle.symm)
        rw [hfil2]
      · intro z hz
        rcases List.mem_append.1 hz with hz | hz
        · exact hnames z (hsub.subset (by simp [hz]))
        · rcases List.mem_cons.1 hz with rfl | hz
          · exact hnames y (hsub.subset (by simp))
          · exact hnames z (hsub.subset (by simp [hz]))
    · have hno : aget ((l1 ++ l2).map FRec.ent) t = none := by
        unfold aget; rw [Option.map_eq_none_iff, List.find?_eq_none]
        intro p hp; obtain ⟨y, hy, rfl⟩ := List.mem_map.1 hp
        simp only [decide_eq_true_eq]; exact fun e => hin ⟨y, hy, e⟩
      rw [aput_new hno] at hma2
      have hM : M.rename x.f.name t = { M with files := ((l1 ++ l2) ++ [(⟨⟨t, x.f.data, x.f.syn⟩, x.blk, x.v⟩ : FRec)]).map FRec.f } := by
        have hfs : (find ((l1 ++ l2).map FRec.f) t).isSome = false := by
          rw [Bool.eq_false_iff]; intro hs
          unfold find at hs; rw [List.find?_isSome] at hs
          obtain ⟨g, hg, e⟩ := hs
          obtain ⟨y, hy, rfl⟩ := List.mem_map.1 hg
          exact hin ⟨y, hy, by simpa using e⟩
        simp only [DM.rename, hfd, hrest, hfs, Bool.false_eq_true, if_false]
        simp
      rw [hM]
      refine ⟨m, mo2, _, h.relist (l1.map FRec.core ++ x.core :: l2.map FRec.core) ?_ (by simp) hk hm2 (by simpa [FRec.ent] using hma2) ?_⟩
      · simp only [List.map_append, List.map_cons, List.map_nil, FRec.core, List.append_assoc]
        exact List.Perm.append_left _ List.perm_append_comm
      · intro z hz
        rcases List.mem_append.1 hz with hz | hz
        · exact hnames z (hsub.subset hz)
        · simp at hz; subst hz; exact ht
  rw [← hw1] at hrun; rw [← hw2] at hrun2
  have HR := Lib.hid R; have HK := Lib.hid hk
  clear R hk hw2 hw1 hma hma2 h0 h ha q1 q2 hx hd hn hbt hfd hm2 hmne hmobj hnm ht
  go_enter Try.func49, Try.ntmps49
  go_wp2
  refine wp_region_sig (tg [1,0,0,1,1,1,0]) [0,1,2,3,4,5,6] (by kernel_rfl) (by kernel_rfl) ?_
  repeat (first | (refine sig_p rfl rfl (fun K hK => ?_); go_simp; refine hK _ ?_; clear hK K) | (refine sig_q rfl rfl (fun K hK => ?_); go_simp; refine hK _ ?_; clear hK K))
  refine sig_nil ?_
  go_wp2
  refine wp_region_sig (tg [1,0,0,1,1,3]) [0,1,2,3,4,5] (by kernel_rfl) (by kernel_rfl) ?_
  repeat (first | (refine sig_p rfl rfl (fun K hK => ?_); go_simp; refine hK _ ?_; clear hK K) | (refine sig_q rfl rfl (fun K hK => ?_); go_simp; refine hK _ ?_; clear hK K))
  refine sig_e0 rfl rfl (fun K hK => ?_)
  go_simp
  refine hK _ _ ?_; clear hK K
  refine sig_nil ?_
  go_wp2
  refine wp_region_sig (tg [1,0,0,1,1,0,3]) [0,1,2,3,4,5,6] (by kernel_rfl) (by kernel_rfl) ?_
  repeat (first | (refine sig_p rfl rfl (fun K hK => ?_); go_simp; refine hK _ ?_; clear hK K) | (refine sig_q rfl rfl (fun K hK => ?_); go_simp; refine hK _ ?_; clear hK K))
  refine sig_e0 rfl rfl (fun K hK => ?_)
  go_simp
  refine hK _ _ ?_; clear hK K
  refine sig_nil ?_
  go_wp2
  go_end0
  exact ⟨rfl, HR.out, HK.out.mono (fun k _ e => by rw [e]; exact hFm)⟩

theorem renameE_zero {M : DM} {a t : ByteArray} (h : renameE M a t = 0) : thereE M a = 0 ∧ okName t = true := by
  unfold renameE at h
  by_cases h1 : thereE M a = 14
  · rw [if_pos h1] at h; cases h
  · rw [if_neg h1] at h
    cases h2 : okName t
    · rw [h2] at h; simp at h
    · exact ⟨by unfold thereE at h1 ⊢; split <;> simp_all, rfl⟩

theorem Rename_any {w : World} {F : Nat → Prop} {b : Nat} {M : DM} (h : Disk w F b M) (hst : M.steps ≤ 1000000000) (ha : M.armed ≤ 9223372036854775807) (n t : ByteArray) (ht : t.size ≤ maxLen) :
    Calls Try.prog 21 #[.pointer (some ⟨b, 0, none⟩), .string n, .string t] w fun e w' => e = .returned (.int .i64 (cmdE M (renameE M n t))) ∧ Disk w' (grow F w w') b (M.cmd (M.go.rename n t) (renameE M n t)) ∧ Keeps F w w' := by
  have H := Lib.hid h
  have e1 : Ext w (((w.alloc (boxD b)).alloc (boxS n)).alloc (boxS t)) := (((Ext.refl w).alloc (Nat.le_refl _) _).alloc (by simp) _).alloc (by simp; omega) _
  have hbd : (((w.alloc (boxD b)).alloc (boxS n)).alloc (boxS t)).heap[w.heap.size]? = some (boxD b) := get_alloc _ (get_alloc _ (get_new w _))
  have hbn : (((w.alloc (boxD b)).alloc (boxS n)).alloc (boxS t)).heap[w.heap.size + 1]? = some (boxS n) := get_alloc _ (by have := get_new (w.alloc (boxD b)) (boxS n); simpa using this)
  have hbt : (((w.alloc (boxD b)).alloc (boxS n)).alloc (boxS t)).heap[w.heap.size + 1 + 1]? = some (boxS t) := by have := get_new ((w.alloc (boxD b)).alloc (boxS n)) (boxS t); simpa using this
  have hc := command_any (h.ext e1) hst ha 48 49 #[.pointer (some ⟨w.heap.size, 0, none⟩), .pointer (some ⟨w.heap.size + 1, 0, none⟩), .pointer (some ⟨w.heap.size + 1 + 1, 0, none⟩)] #[.pointer (some ⟨w.heap.size, 0, none⟩), .pointer (some ⟨w.heap.size + 1, 0, none⟩), .pointer (some ⟨w.heap.size + 1 + 1, 0, none⟩)] (renameE M n t) (M3 := M.go.rename n t)
    (ent_of Try.func48 (by kernel_rfl) rfl) (ent_of Try.func49 (by kernel_rfl) rfl)
    (fun _ => by obtain ⟨m, mo, fs, hR⟩ := h.ext e1; exact rename1_any hR n t ht hbd hbn hbt)
    (fun _ hx _ w2 hD hK => by
      obtain ⟨x1, x2⟩ := renameE_zero hx
      have hnF : ∀ k, w.heap.size ≤ k → ¬ F k := fun k hk hf => by have := h.lim k hf; omega
      obtain ⟨m, mo, fs, hR⟩ := hD
      refine (rename2_any hR n t x1 (okName_size x2) (hK.get hbd (hnF _ (Nat.le_refl _))) (hK.get hbn (hnF _ (by omega))) (hK.get hbt (hnF _ (by omega)))).mono ?_
      rintro e w3 ⟨rfl, d3, k3⟩
      exact ⟨rfl, d3.mono (fun k hk => hk.imp id (fun h2 => ⟨Nat.le_trans hK.size h2.1, h2.2⟩)) (grow_lim (h.ext e1).lim (Nat.le_trans hK.size k3.size)), k3⟩)
  have HC := Lib.hid hc; have HE := Lib.hid e1
  clear hc h hst ha hbd hbn hbt e1 ht
  simp only [boxD, boxS] at HC HE
  go_enter Try.func21, Try.ntmps21
  go_wp2_with fail
  refine HC.out.mono ?_
  rintro e w1 ⟨rfl, hD, hK⟩
  have HD := Lib.hid hD; have HK := Lib.hid hK
  clear hD hK
  go_wp2_with fail
  go_ret
  have hs := HE.out.size
  exact ⟨rfl, HD.out.mono (fun k hk => hk.imp id (fun h2 => ⟨Nat.le_trans hs h2.1, h2.2⟩)) (grow_lim H.out.lim (Nat.le_trans hs HK.out.size)), (Keeps.of_ext HE.out).trans HK.out (fun _ _ h => h)⟩
end Go.Proofs.Ytjbalcfdenaneaa
