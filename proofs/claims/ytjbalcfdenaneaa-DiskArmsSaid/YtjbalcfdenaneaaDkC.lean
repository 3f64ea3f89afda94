/- Walks: Create. -/
import Derived.Test.YtjbalcfdenaneaaDkN
namespace Go.Proofs.Ytjbalcfdenaneaa
open Go Go.RowKit Go.ChangeMaps Mu
set_option maxRecDepth 100000
attribute [local go_sem] drew_heap get_alloc

def createE (M : DM) (n : ByteArray) : Int := if okName n = false then 25 else if (find M.files n).isSome then 15 else if 1024 ≤ M.files.length then 12 else 0
def DM.create (M : DM) (n : ByteArray) : DM := { M with files := M.files ++ [⟨n, [], 0⟩] }
def boxD (b : Nat) : Obj := .cells #[.pointer (some ⟨b, 0, none⟩)] 35 (0, 0)
def boxS (n : ByteArray) : Obj := .cells #[.string n] 9 (0, 0)

theorem okName_size {n : ByteArray} (h : okName n = true) : n.size ≤ 64 := by simp [okName] at h; omega

theorem DiskR.len {w : World} {F : Nat → Prop} {b m : Nat} {mo : Obj} {fs : List FRec} {M : DM} (h : DiskR w F b m mo fs M) : fs.length = M.files.length := by rw [← h.files]; simp

theorem create1_any {w : World} {F : Nat → Prop} {b m bd bn : Nat} {mo : Obj} {fs : List FRec} {M : DM} (h : DiskR w F b m mo fs M) (n : ByteArray) (hs : n.size ≤ maxLen)
    (hd : w.heap[bd]? = some (boxD b)) (hn : w.heap[bn]? = some (boxS n)) :
    Calls Try.prog 37 #[.pointer (some ⟨bn, 0, none⟩), .pointer (some ⟨bd, 0, none⟩)] w fun e w' => e = .returned (.int .i64 (createE M n)) ∧ Ext w w' := by
  have H := Lib.hid h
  have hcn := cell_of hn 0
  have HD := Lib.hid hd
  have hlen := h.len
  have hmany := h.ok.many
  clear h hd hn
  have hcn : w.cell? ⟨bn, 0, none⟩ = some (.string n) := hcn
  by_cases hok : okName n = true
  · -- behind the call of Name
    have aft : ∀ w1, Ext w w1 → (w1.cell? ⟨bd, 0, none⟩ = some (.pointer (some ⟨b, 0, none⟩)) ∧ w1.cell? ⟨bn, 0, none⟩ = some (.string n)) ∧ DiskR w1 F b m mo fs M := fun w1 he =>
      ⟨⟨cell_of (he.get HD.out) 0, by rw [he.cell (p := ⟨bn, 0, none⟩) (by simpa using World.block_lt_of_cell? w ⟨bn, 0, none⟩ hcn)]; exact hcn⟩, H.out.ext' he⟩
    have AF := Lib.hid aft
    clear aft
    rcases H.out.look n with ⟨h1, h2⟩ | ⟨x, hx, h1, h2, h3⟩
    · by_cases hm : 1024 ≤ M.files.length
      all_goals
        have hE : createE M n = if 1024 ≤ M.files.length then 12 else 0 := by simp [createE, hok, h1]
        rw [hE]; simp only [hm, if_true, if_false]
        rw [← hlen] at hm hmany
        clear hE h1 hlen
        go_enter Try.func37, Try.ntmps37
        go_wp2_with (go_at_call 31; refine (Name_any _ _ hs).mono ?_; rw [hok]; rintro e w1 ⟨rfl, he⟩)
        obtain ⟨⟨d1, n1⟩, R1⟩ := AF.out _ he
        obtain ⟨_, _, _, _, c4⟩ := R1.cells
        have hl := fun w' hw => R1.lookup n w' hw
        rw [h2] at hl
        simp only [Option.getD_none] at hl
        have hln := run_len_at (P := Try.prog) (t := 49) (ty := 3) Try.underlying49 R1.drew.map R1.at_
        simp only [List.length_map] at hln
        have HR := Lib.hid R1; have HE := Lib.hid he
        clear R1 he h2
        refine wp_region_sig (tg [1,0,0,1,1,1,0,0]) [0,1,2,3,4,5,6,7] (by kernel_rfl) (by kernel_rfl) ?_
        repeat (first | (refine sig_p rfl rfl (fun K hK => ?_); go_simp; refine hK _ ?_; clear hK K) | (refine sig_q rfl rfl (fun K hK => ?_); go_simp; refine hK _ ?_; clear hK K))
        refine sig_nil ?_
        go_wp2
        go_ret
        exact ⟨rfl, HE.out.drew⟩
    · have hE : createE M n = 15 := by simp [createE, hok, h1]
      rw [hE]
      clear hE h1 hlen h2 hx hmany
      go_enter Try.func37, Try.ntmps37
      go_wp2_with (go_at_call 31; refine (Name_any _ _ hs).mono ?_; rw [hok]; rintro e w1 ⟨rfl, he⟩)
      obtain ⟨⟨d1, n1⟩, R1⟩ := AF.out _ he
      obtain ⟨_, _, _, _, c4⟩ := R1.cells
      have hl := fun w' hw => R1.lookup n w' hw
      rw [h3] at hl
      simp only [Option.getD_some] at hl
      have HR := Lib.hid R1; have HE := Lib.hid he
      clear R1 he h3
      refine wp_region_sig (tg [1,0,0,1,1,1,0,0]) [0,1,2,3,4,5,6,7] (by kernel_rfl) (by kernel_rfl) ?_
      repeat (first | (refine sig_p rfl rfl (fun K hK => ?_); go_simp; refine hK _ ?_; clear hK K) | (refine sig_q rfl rfl (fun K hK => ?_); go_simp; refine hK _ ?_; clear hK K))
      refine sig_nil ?_
      go_wp2
      go_ret
      exact ⟨rfl, HE.out.drew⟩
  · have hok : okName n = false := by simpa using hok
    have hE : createE M n = 25 := by simp [createE, hok]
    rw [hE]; clear hE
    go_enter Try.func37, Try.ntmps37
    go_wp2_with (go_at_call 31; refine (Name_any _ _ hs).mono ?_; rw [hok]; rintro e w1 ⟨rfl, he⟩)
    go_ret
    exact ⟨rfl, he⟩

theorem aput_new {α : Type} [DecidableEq α] {l : List (α × Value)} {k : α} (h : aget l k = none) (v : Value) : aput l k v = l ++ [(k, v)] := by
  unfold aput
  rcases afind_spec k l 0 with ⟨a1, _⟩ | ⟨j, u, a1, a2, _⟩
  · rw [a1]
  · rw [h] at a2; cases a2

/-- a file more -/
theorem DiskR.create {w w' : World} {F : Nat → Prop} {b m g : Nat} {mo mo' : Obj} {fs : List FRec} {M : DM} (h : DiskR w F b m mo fs M) (n : ByteArray) (hf : aget (fs.map FRec.ent) n = none) (hs : n.size ≤ 64) (hmany : M.files.length < 1024)
    (hg : w.heap.size ≤ g) (hk : Keeps (fun k => k = m) w w') (hm : w'.heap[m]? = some mo') (hma : MapAt Value.string mo' (aput (fs.map FRec.ent) n (.pointer (some ⟨g, 0, none⟩)))) (hg' : w'.heap[g]? = some (fileO (.slice none 0 0) 0)) :
    DiskR w' (grow F w w') b m mo' (fs ++ [⟨⟨n, [], 0⟩, g, .slice none 0 0⟩]) (M.create n) := by
  have hall : ∀ k ∈ b :: fs.flatMap FRec.foot, w'.heap[k]? = w.heap[k]? := fun k hk' => by
    have hkm : k ∈ b :: m :: fs.flatMap FRec.foot := by simp at hk' ⊢; rcases hk' with h | h <;> simp [h]
    refine hk.block k (h.lt k hkm) (fun e => ?_)
    subst e
    have h1 := List.nodup_cons.1 h.apart
    simp at hk'
    rcases hk' with e | e
    · subst e; exact h1.1 (by simp)
    · obtain ⟨x, hx, hx2⟩ := e
      exact (List.nodup_cons.1 h1.2).1 (List.mem_flatMap.2 ⟨x, hx, hx2⟩)
  have hsub : ∀ x ∈ fs, ∀ k ∈ x.foot, k ∈ b :: fs.flatMap FRec.foot := fun x hx k hk => by
    simp only [List.mem_cons, List.mem_flatMap]; exact .inr ⟨x, hx, hk⟩
  refine ⟨(hall b (by simp)).trans h.blk, hm, ?_, fun x hx => ?_, ?_, fun k hk' => ?_, ?_, ⟨h.ok.cap, ?_, ?_, ?_, ?_⟩, grow_lim h.lim hk.size⟩
  · rw [aput_new hf] at hma; simpa [FRec.ent] using hma
  · rcases List.mem_append.1 hx with hx | hx
    · exact ⟨(hall x.blk (hsub x hx _ (by simp [FRec.foot]))).trans (h.file x hx).1, owns_move (h.file x hx).2 (fun k hk => hall k (hsub x hx _ (by simp [FRec.foot, hk])))⟩
    · simp at hx; subst hx
      exact ⟨hg', World.ownsRow_nil _ _ _ _⟩
  · have hnew : g ∉ b :: m :: fs.flatMap FRec.foot := fun hin => by have := h.lt g hin; omega
    have e : b :: m :: (fs ++ [(⟨⟨n, [], 0⟩, g, .slice none 0 0⟩ : FRec)]).flatMap FRec.foot = (b :: m :: fs.flatMap FRec.foot) ++ [g] := by simp [FRec.foot, Value.ownBlock]
    rw [e, List.nodup_append]
    exact ⟨h.apart, by simp, fun a ha c hc => by simp at hc; subst hc; exact fun e => hnew (e ▸ ha)⟩
  · have e : b :: m :: (fs ++ [(⟨⟨n, [], 0⟩, g, .slice none 0 0⟩ : FRec)]).flatMap FRec.foot = (b :: m :: fs.flatMap FRec.foot) ++ [g] := by simp [FRec.foot, Value.ownBlock]
    rw [e] at hk'
    rcases List.mem_append.1 hk' with h1 | h1
    · exact .inl (h.foot k h1)
    · simp at h1; subst h1; exact .inr ⟨hg, lt_of_get hg'⟩
  · simp [DM.create, h.files]
  · have := h.ok.used; simpa [DM.create, used] using this
  · simp [DM.create]; omega
  · intro f hf'; simp [DM.create] at hf'; rcases hf' with h1 | rfl
    · exact h.ok.syn f h1
    · simp
  · intro f hf'; simp [DM.create] at hf'; rcases hf' with h1 | rfl
    · exact h.ok.names f h1
    · exact hs

theorem create2_any {w : World} {F : Nat → Prop} {b m bd bn : Nat} {mo : Obj} {fs : List FRec} {M : DM} (h : DiskR w F b m mo fs M) (n : ByteArray) (hs : n.size ≤ 64) (hf : find M.files n = none) (hmany : M.files.length < 1024)
    (hd : w.heap[bd]? = some (boxD b)) (hn : w.heap[bn]? = some (boxS n)) :
    Calls Try.prog 38 #[.pointer (some ⟨bd, 0, none⟩), .pointer (some ⟨bn, 0, none⟩)] w fun e w' => e = .returned (.tuple #[]) ∧ Disk w' (grow F w w') b (M.create n) ∧ Keeps F w w' := by
  have hg : aget (fs.map FRec.ent) n = none := by
    rcases h.look n with ⟨_, h2⟩ | ⟨x, _, h1, _⟩
    · exact h2
    · rw [hf] at h1; cases h1
  have H := Lib.hid h
  obtain ⟨_, _, _, _, c4⟩ := h.cells
  have hcn : w.cell? ⟨bn, 0, none⟩ = some (.string n) := cell_of hn 0
  have hcd : w.cell? ⟨bd, 0, none⟩ = some (.pointer (some ⟨b, 0, none⟩)) := cell_of hd 0
  have hFm : F m := h.foot m (by simp)
  obtain ⟨mo', hrun, hma⟩ := run_mapUpdate_at (P := Try.prog) (w := (w.drew.alloc (fileO (.slice none 0 0) 0))) skey Try.underlying49 (get_alloc _ h.map) h.at_ n (.pointer (some ⟨w.heap.size, 0, none⟩))
  have hlt := lt_of_get h.map
  have l1 := lt_of_get hd; have l2 := lt_of_get hn; have l3 := lt_of_get h.blk
  obtain ⟨w2, hw2⟩ : ∃ w2, w2 = setBlock (w.drew.alloc (fileO (.slice none 0 0) 0)) m mo' := ⟨_, rfl⟩
  have hmap2 : w2.heap[m]? = some mo' := by rw [hw2]; exact get_setBlock _ (get_alloc (w := w.drew) (fileO (.slice none 0 0) 0) h.map)
  have hk : Keeps (fun k => k = m) w w2 := by
    rw [hw2]; exact (((Keeps.refl (fun k => k = m) w).drew).alloc _).setBlock (.inl rfl) _
  have hg2 : w2.heap[w.heap.size]? = some (fileO (.slice none 0 0) 0) := by
    rw [hw2]; exact get_setBlock_ne _ (get_new w.drew _) (by show w.heap.size ≠ m; omega)
  have R2 := h.create n hg hs hmany (Nat.le_refl _) hk hmap2 hma hg2
  rw [← hw2] at hrun
  have HR := Lib.hid R2; have HK := Lib.hid hk
  clear R2 hk hw2 hma hg2 hmap2 hf hmany hs h hg
  simp only [fileO] at hrun
  have hrun : (Instr.mapUpdate 49 (.map (some m)) (.string n) (.pointer (some ⟨w.heap.size, 0, none⟩))).run Try.prog (w.alloc (.cells #[.slice none 0 0, .int .i64 0] 79)).drew = .ok () w2 := hrun
  go_enter Try.func38, Try.ntmps38
  go_wp2
  refine wp_region_sig (tg [2,0,0,2,2,0,3,3]) [0,1,2,3,4,5,6,7] (by kernel_rfl) (by kernel_rfl) ?_
  repeat (first | (refine sig_p rfl rfl (fun K hK => ?_); go_simp; refine hK _ ?_; clear hK K) | (refine sig_r rfl rfl rfl (fun K hK => ?_); go_simp; refine hK _ _ _ ?_; clear hK K))
  refine sig_e rfl rfl rfl (fun K hK => ?_)
  go_simp
  apply hK <;> clear hK K
  · repeat (first | exact keeps_none | refine keeps_waits rfl ?_ | refine keeps_put (by go_simp) ?_)
  refine sig_e rfl rfl rfl (fun K hK => ?_)
  go_simp
  apply hK <;> clear hK K
  · repeat (first | exact keeps_none | refine keeps_waits rfl ?_)
  refine sig_nil ?_
  go_wp2
  go_end0
  exact ⟨rfl, ⟨m, mo', _, HR.out⟩, HK.out.mono (fun k _ e => by rw [e]; exact hFm)⟩

theorem createE_zero {M : DM} {n : ByteArray} (h : createE M n = 0) : okName n = true ∧ find M.files n = none ∧ M.files.length < 1024 := by
  unfold createE at h
  cases h1 : okName n <;> simp [h1] at h
  cases h2 : find M.files n <;> simp [h2] at h
  exact ⟨rfl, rfl, by omega⟩
theorem ent_of {k : FuncId} {fn : Func} (h : Try.prog.funcs[k]? = some fn) (h1 : (fn.name == "runtime.NumGoroutine") = false) (h2 : fn.body.isNone = false) : Ent k := ⟨fn, h, h1, h2⟩

theorem Create_any {w : World} {F : Nat → Prop} {b : Nat} {M : DM} (h : Disk w F b M) (hst : M.steps ≤ 1000000000) (ha : M.armed ≤ 9223372036854775807) (n : ByteArray) (hs : n.size ≤ maxLen) :
    Calls Try.prog 17 #[.pointer (some ⟨b, 0, none⟩), .string n] w fun e w' => e = .returned (.int .i64 (cmdE M (createE M n))) ∧ Disk w' (grow F w w') b (M.cmd (M.go.create n) (createE M n)) ∧ Keeps F w w' := by
  have H := Lib.hid h
  have e1 : Ext w ((w.alloc (boxD b)).alloc (boxS n)) := ((Ext.refl w).alloc (Nat.le_refl _) _).alloc (by simp) _
  have hbd : ((w.alloc (boxD b)).alloc (boxS n)).heap[w.heap.size]? = some (boxD b) := get_alloc _ (get_new w _)
  have hbn : ((w.alloc (boxD b)).alloc (boxS n)).heap[w.heap.size + 1]? = some (boxS n) := by have := get_new (w.alloc (boxD b)) (boxS n); simpa using this
  have hc := command_any (h.ext e1) hst ha 37 38 #[.pointer (some ⟨w.heap.size + 1, 0, none⟩), .pointer (some ⟨w.heap.size, 0, none⟩)] #[.pointer (some ⟨w.heap.size, 0, none⟩), .pointer (some ⟨w.heap.size + 1, 0, none⟩)] (createE M n) (M3 := M.go.create n)
    (ent_of Try.func37 (by kernel_rfl) rfl) (ent_of Try.func38 (by kernel_rfl) rfl)
    (fun _ => by obtain ⟨m, mo, fs, hR⟩ := h.ext e1; exact create1_any hR n hs hbd hbn)
    (fun _ hx _ w2 hD hK => by
      obtain ⟨x1, x2, x3⟩ := createE_zero hx
      have hnF : ∀ k, w.heap.size ≤ k → ¬ F k := fun k hk hf => by have := h.lim k hf; omega
      obtain ⟨m, mo, fs, hR⟩ := hD
      refine (create2_any hR n (okName_size x1) x2 x3 (hK.get hbd (hnF _ (Nat.le_refl _))) (hK.get hbn (hnF _ (by omega)))).mono ?_
      rintro e w3 ⟨rfl, d3, k3⟩
      exact ⟨rfl, d3.mono (fun k hk => hk.imp id (fun h2 => ⟨Nat.le_trans hK.size h2.1, h2.2⟩)) (grow_lim (by obtain ⟨m, mo, fs, hR⟩ := h.ext e1; exact hR.lim) (Nat.le_trans hK.size k3.size)), k3⟩)
  have HC := Lib.hid hc; have HE := Lib.hid e1
  clear hc h hst ha hbd hbn e1 hs
  simp only [boxD, boxS] at HC HE
  go_enter Try.func17, Try.ntmps17
  go_wp2_with fail
  refine HC.out.mono ?_
  rintro e w1 ⟨rfl, hD, hK⟩
  have HD := Lib.hid hD; have HK := Lib.hid hK
  clear hD hK
  go_wp2_with fail
  go_ret
  have hs := HE.out.size
  exact ⟨rfl, HD.out.mono (fun k hk => hk.imp id (fun h2 => ⟨Nat.le_trans hs h2.1, h2.2⟩)) (grow_lim H.out.lim (Nat.le_trans hs HK.out.size)), (Keeps.of_ext HE.out).trans HK.out (fun _ _ h => h)⟩
end Go.Proofs.Ytjbalcfdenaneaa
