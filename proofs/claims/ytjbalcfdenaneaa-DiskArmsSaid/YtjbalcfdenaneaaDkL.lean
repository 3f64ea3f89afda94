/- Walks: Copy. -/
import Derived.Test.YtjbalcfdenaneaaDkK
import Derived.Carry
namespace Go.Proofs.Ytjbalcfdenaneaa
open Go Go.RowKit Go.ChangeMaps Mu
set_option maxRecDepth 100000
set_option maxHeartbeats 1000000
attribute [local go_sem] drew_heap get_alloc

/-- a file more, with bytes -/
theorem DiskR.put {w w' : World} {F : Nat → Prop} {b m g : Nat} {mo mo' : Obj} {fs : List FRec} {M : DM} (h : DiskR w F b m mo fs M) (n : ByteArray) (hf : aget (fs.map FRec.ent) n = none) (hs : n.size ≤ 64) (hmany : M.files.length < 1024)
    (data : List UInt8) (v : Value) (s : Nat) (hg : w.heap.size ≤ g) (hk : Keeps (fun k => k = m) w w') (hm : w'.heap[m]? = some mo') (hma : MapAt Value.string mo' (aput (fs.map FRec.ent) n (.pointer (some ⟨g, 0, none⟩)))) (hg' : w'.heap[g]? = some (fileO v s))
    (ho : w'.ownsRow 0 5 1 v data.length (encB data)) (hv : ∀ k, v.ownBlock = some k → w.heap.size ≤ k ∧ k ≠ g) (hsd : s ≤ data.length) (hu : used M.files + data.length ≤ 67108864) :
    DiskR w' (grow F w w') b m mo' (fs ++ [⟨⟨n, data, s⟩, g, v⟩]) { M with files := M.files ++ [⟨n, data, s⟩] } := by
  have hall : ∀ k ∈ b :: fs.flatMap FRec.foot, w'.heap[k]? = w.heap[k]? := fun k hk' => by
    have hkm : k ∈ b :: m :: fs.flatMap FRec.foot := by simp at hk' ⊢; rcases hk' with h | h <;> simp [h]
    refine hk.block k (h.lt k hkm) (fun e => ?_)
    subst e
    have h1 := List.nodup_cons.1 h.apart
    simp at hk'
    rcases hk' with e | e
    · subst e; exact h1.1 (by simp)
    · obtain ⟨x, hx, hx2⟩ := e
      exact (List.nodup_cons.1 h1.2).1 (List.mem_flatMap.2 ⟨x, hx, hx2⟩)
  have hsub : ∀ x ∈ fs, ∀ k ∈ x.foot, k ∈ b :: fs.flatMap FRec.foot := fun x hx k hk => by
    simp only [List.mem_cons, List.mem_flatMap]; exact .inr ⟨x, hx, hk⟩
  have e : b :: m :: (fs ++ [(⟨⟨n, data, s⟩, g, v⟩ : FRec)]).flatMap FRec.foot = (b :: m :: fs.flatMap FRec.foot) ++ (g :: v.ownBlock.toList) := by simp [FRec.foot]
  refine ⟨(hall b (by simp)).trans h.blk, hm, ?_, fun x hx => ?_, ?_, fun k hk' => ?_, ?_, ⟨h.ok.cap, ?_, ?_, ?_, ?_⟩, grow_lim h.lim hk.size⟩
  · rw [aput_new hf] at hma; simpa [FRec.ent] using hma
  · rcases List.mem_append.1 hx with hx | hx
    · exact ⟨(hall x.blk (hsub x hx _ (by simp [FRec.foot]))).trans (h.file x hx).1, owns_move (h.file x hx).2 (fun k hk => hall k (hsub x hx _ (by simp [FRec.foot, hk])))⟩
    · simp at hx; subst hx
      exact ⟨hg', ho⟩
  · have hnew : ∀ a ∈ b :: m :: fs.flatMap FRec.foot, a < w.heap.size := fun a ha => h.lt a ha
    rw [e, List.nodup_append]
    refine ⟨h.apart, ?_, fun a ha c hc => ?_⟩
    · refine List.nodup_cons.2 ⟨fun hin => ?_, ?_⟩
      · rw [Option.mem_toList] at hin; exact (hv g hin).2 rfl
      · cases v.ownBlock <;> simp
    · have := hnew a ha
      rcases List.mem_cons.1 hc with rfl | hc
      · omega
      · rw [Option.mem_toList] at hc; have := (hv c hc).1; omega
  · rw [e] at hk'
    rcases List.mem_append.1 hk' with h1 | h1
    · exact .inl (h.foot k h1)
    · rcases List.mem_cons.1 h1 with rfl | h1
      · exact .inr ⟨hg, lt_of_get hg'⟩
      · rw [Option.mem_toList] at h1; exact .inr ⟨(hv k h1).1, owns_lt ho h1⟩
  · simp [h.files]
  · simp [used] at hu ⊢; omega
  · simp; omega
  · intro f hf'; simp at hf'; rcases hf' with h1 | rfl
    · exact h.ok.syn f h1
    · exact hsd
  · intro f hf'; simp at hf'; rcases hf' with h1 | rfl
    · exact h.ok.names f h1
    · exact hs

theorem put_step {w2 w3 : World} {G : Nat → Prop} {b m : Nat} {mo : Obj} {fs : List FRec} {M : DM} (h : DiskR w2 G b m mo fs M) (he : Ext w2 w3) (n : ByteArray) (hf : find M.files n = none) (hs : n.size ≤ 64) (hmany : M.files.length < 1024)
    (data : List UInt8) (v : Value) (s : Nat) (ho : w3.ownsRow 0 5 1 v data.length (encB data)) (hv : ∀ k, v.ownBlock = some k → w2.heap.size ≤ k) (hsd : s ≤ data.length) (hu : used M.files + data.length ≤ 67108864) :
    ∃ w5, (Instr.mapUpdate 49 (.map (some m)) (.string n) (.pointer (some ⟨w3.heap.size, 0, none⟩))).run Try.prog (w3.alloc (fileO v s)) = .ok () w5 ∧
      (∃ mo' nfs, DiskR w5 (grow G w2 w5) b m mo' nfs { M with files := M.files ++ [⟨n, data, s⟩] }) ∧ Keeps (fun k => k = m) w2 w5 := by
  have hg : aget (fs.map FRec.ent) n = none := by
    rcases h.look n with ⟨_, h2⟩ | ⟨x, _, h1, _⟩
    · exact h2
    · rw [hf] at h1; cases h1
  have hlt := lt_of_get h.map
  have hsz := he.size
  have hm3 : (w3.alloc (fileO v s)).heap[m]? = some mo := get_alloc _ (he.get h.map)
  obtain ⟨mo', hrun, hma⟩ := run_mapUpdate_at (P := Try.prog) (w := w3.alloc (fileO v s)) skey Try.underlying49 hm3 h.at_ n (.pointer (some ⟨w3.heap.size, 0, none⟩))
  have hk : Keeps (fun k => k = m) w2 (setBlock (w3.alloc (fileO v s)) m mo') := ((Keeps.of_ext (F := fun k => k = m) he).alloc _).setBlock (.inl rfl) _
  have hmap2 : (setBlock (w3.alloc (fileO v s)) m mo').heap[m]? = some mo' := get_setBlock _ hm3
  have hg2 : (setBlock (w3.alloc (fileO v s)) m mo').heap[w3.heap.size]? = some (fileO v s) := get_setBlock_ne _ (get_new w3 _) (by omega)
  have ho2 : (setBlock (w3.alloc (fileO v s)) m mo').ownsRow 0 5 1 v data.length (encB data) := owns_move ho (fun k hk => by
    have h1 := owns_lt ho hk; have h2 := hv k hk
    have h3 : (w3.alloc (fileO v s)).heap[k]? = w3.heap[k]? := Below.heap_alloc w3 _ k h1
    cases hq : w3.heap[k]? with
    | none => rw [Array.getElem?_eq_none_iff] at hq; omega
    | some o => exact get_setBlock_ne _ (by rw [h3]; exact hq) (by omega))
  exact ⟨_, hrun, ⟨mo', _, h.put n hg hs hmany data v s hsz hk hmap2 hma hg2 ho2 (fun k hk => ⟨hv k hk, by have := owns_lt ho hk; omega⟩) hsd hu⟩, hk⟩

/-- a copy's worth: the same, the files in whatever order -/
structure CopyOf (M M' : DM) : Prop where
  armed : M'.armed = M.armed
  steps : M'.steps = M.steps
  down : M'.down = M.down
  cap : M'.cap = M.cap
  files : M'.files.Perm M.files

def newF (w wr : World) : Nat → Prop := fun k => w.heap.size ≤ k ∧ k < wr.heap.size ∧ k ≠ w.heap.size + 2
def boxK (M : DM) (m : Nat) : Obj := diskO M m

theorem copy_start {w : World} {F : Nat → Prop} {b : Nat} {M : DM} (h : Disk w F b M) (W : World) (hs : W.heap.size = w.heap.size + 2) (hm : W.heap[w.heap.size]? = some (.map #[] 0)) (hb : W.heap[w.heap.size + 1]? = some (diskO M w.heap.size)) :
    DiskR W (newF w W) (w.heap.size + 1) w.heap.size (.map #[] 0) [] { M with files := [] } :=
  ⟨hb, hm, by simpa using MapAt.nil Value.string, fun x hx => by simp at hx, by simp, fun k hk => by
    simp at hk
    unfold newF; omega, rfl, ⟨h.ok.cap, by simp [used], by simp, by simp, by simp⟩, fun k hk => hk.2.1⟩

theorem erase_perm {α : Type} : ∀ (l : List α) (j : Nat) (h : j < l.length), (l[j] :: l.eraseIdx j).Perm l
  | a :: l, 0, _ => by simp
  | a :: l, j + 1, h => by
    have hj : j < l.length := by simpa using h
    have := erase_perm l j hj
    simp only [List.getElem_cons_succ, List.eraseIdx_cons_succ]
    exact (List.Perm.swap a l[j] _).trans (this.cons a)
theorem find_none {l : List DF} {n : ByteArray} (h : n ∉ l.map (·.name)) : find l n = none := by
  unfold find; rw [List.find?_eq_none]; intro f hf; simp; exact fun e => h (by rw [← e]; exact List.mem_map_of_mem hf)
theorem used_app (a b : List DF) : used (a ++ b) = used a + used b := by simp [used]
theorem used_perm {a b : List DF} (h : a.Perm b) : used a = used b := by unfold used; exact (h.map _).sum_nat

theorem Copy_any {w : World} {F : Nat → Prop} {b : Nat} {M : DM} (h : Disk w F b M) : Calls Try.prog 29 #[.pointer (some ⟨b, 0, none⟩)] w fun e w' => ∃ b' M', e = .returned (.pointer (some ⟨b', 0, none⟩)) ∧ Disk w' (fun k => w.heap.size ≤ k ∧ k < w'.heap.size) b' M' ∧ CopyOf M M' ∧ Ext w w' := by
  have H := Lib.hid h
  obtain ⟨m, mo, fs, hR⟩ := h
  obtain ⟨c0, c1, c2, c3, c4⟩ := hR.cells
  have HR := Lib.hid hR
  have hblt := lt_of_get hR.blk
  have hmm := @run_makeMap Try.prog
  clear hR
  go_enter Try.func29, Try.ntmps29
  go_wp2
  refine wp_region_sig (tg [0,0,0,2,0,0,0,2,3,0,3,0]) [0,1,2,3,4,5,6,7,8,9,10,11] (by kernel_rfl) (by kernel_rfl) ?_
  repeat (first | (refine sig_p rfl rfl (fun K hK => ?_); go_simp; refine hK _ ?_; clear hK K) | (refine sig_r rfl rfl rfl (fun K hK => ?_); go_simp; refine hK _ _ _ ?_; clear hK K))
  refine sig_e rfl rfl rfl (fun K hK => ?_)
  go_simp
  apply hK <;> clear hK K
  · repeat (first | exact keeps_none | refine keeps_waits rfl ?_ | refine keeps_put (by go_simp) ?_)
  repeat (first | (refine sig_p rfl rfl (fun K hK => ?_); go_simp; refine hK _ ?_; clear hK K))
  refine sig_e rfl rfl rfl (fun K hK => ?_)
  go_simp
  apply hK <;> clear hK K
  · repeat (first | exact keeps_none | refine keeps_waits rfl ?_ | refine keeps_put (by go_simp) ?_)
  repeat (first | (refine sig_p rfl rfl (fun K hK => ?_); go_simp; refine hK _ ?_; clear hK K))
  refine sig_nil ?_
  have e1 : Ext w (((w.alloc (.map #[] 0)).alloc (.cells #[.int .i64 M.armed, .int .i64 M.steps, .bool M.down, .int .i64 M.cap, .map (some w.heap.size)] 51)).drew) := (((Ext.refl w).alloc (Nat.le_refl _) _).alloc (by simp) _).drew
  have hm1 : (((w.alloc (.map #[] 0)).alloc (.cells #[.int .i64 M.armed, .int .i64 M.steps, .bool M.down, .int .i64 M.cap, .map (some w.heap.size)] 51)).drew).heap[w.heap.size]? = some (.map #[] 0) := get_alloc _ (get_new w _)
  have hb1 : (((w.alloc (.map #[] 0)).alloc (.cells #[.int .i64 M.armed, .int .i64 M.steps, .bool M.down, .int .i64 M.cap, .map (some w.heap.size)] 51)).drew).heap[w.heap.size + 1]? = some (diskO M w.heap.size) := by
    have := get_new (w.alloc (.map #[] 0)) (diskO M w.heap.size)
    rw [show (w.alloc (.map #[] 0)).heap.size = w.heap.size + 1 by simp] at this
    exact this
  have hs1 : (((w.alloc (.map #[] 0)).alloc (.cells #[.int .i64 M.armed, .int .i64 M.steps, .bool M.down, .int .i64 M.cap, .map (some w.heap.size)] 51)).drew).heap.size = w.heap.size + 2 := by simp
  obtain ⟨W, hW⟩ : ∃ W, W = (((w.alloc (.map #[] 0)).alloc (.cells #[.int .i64 M.armed, .int .i64 M.steps, .bool M.down, .int .i64 M.cap, .map (some w.heap.size)] 51)).drew) := ⟨_, rfl⟩
  rw [← hW]
  rw [← hW] at e1 hm1 hb1 hs1
  clear hW hmm
  have hS := copy_start H.out W hs1 hm1 hb1
  have hR1 := HR.out.ext' e1
  obtain ⟨oi, hr, hi⟩ := run_range_at (P := Try.prog) (t := 49) Try.underlying49 hR1.map hR1.at_
  obtain ⟨_, _, _, _, c4⟩ := hR1.cells
  have HI := Lib.hid hi; have HS := Lib.hid hS; have HE1 := Lib.hid e1
  have HSZ := Lib.hid hs1
  clear hi hS hR1 e1 hm1 hb1 c0 c1 c2 c3 hs1
  go_wp2
  have HPE := Lib.hid HR.out.files
  go_loopg [] fs.length (fun g wr => ∃ (lx : List FRec) (oi : Obj) (dn : List DF) (mo' : Obj) (nfs : List FRec), g = lx.length ∧ IterAt Value.string mo oi m (lx.map FRec.ent) ∧ (∀ x ∈ lx, x ∈ fs) ∧ wr.heap[W.heap.size]? = some oi ∧ Ext w wr ∧
    DiskR wr (newF w wr) (w.heap.size + 1) w.heap.size mo' nfs { M with files := dn } ∧ (dn ++ lx.map FRec.f).Perm M.files)
  case atStart => exact ⟨fs, oi, [], _, [], rfl, HI.out, fun _ h => h, get_new W oi, HE1.out.alloc HE1.out.size oi, (HS.out.ext' ((Ext.refl W).alloc (Nat.le_refl _) oi)).move (fun _ _ _ => rfl) (fun k hk => ⟨hk.1, by have := hk.2.1; simp; omega, hk.2.2⟩) (fun k hk => hk.2.1), by rw [← HPE.out]; simp⟩
  case round =>
    obtain ⟨lx, oj, dn, mo', nfs, rfl, hit, hsub, hgr, hext, hD, hper⟩ := hrel
    have hm := hext.get HR.out.map
    rcases run_next_iter (P := Try.prog) (ty := 0) hgr hm hit with ⟨hnil, hrun⟩ | ⟨j, p, oi', w1, hj, hw1, hrun, hit', hent⟩
    · have hlx : lx = [] := by simpa using hnil
      subst hlx
      have HD := Lib.hid hD; have HP := Lib.hid hper; have HX := Lib.hid hext
      clear hD hper hit hgr hm hsub hnil hext hr c4
      go_wp2
      go_ret
      exact ⟨w.heap.size + 1, { M with files := dn }, rfl, ⟨_, _, _, HD.out.move (fun _ _ _ => rfl) (fun k hk => ⟨hk.1, hk.2.1⟩) (fun k hk => hk.2)⟩, ⟨rfl, rfl, rfl, rfl, by simpa using HP.out⟩, HX.out⟩
    · rw [List.getElem?_map] at hj
      obtain ⟨x, hx, rfl⟩ := Option.map_eq_some_iff.1 hj
      obtain ⟨hjl, hjx⟩ := List.getElem?_eq_some_iff.1 hx
      have hxf := hsub x (List.mem_of_getElem? hx)
      have hxM : x.f ∈ M.files := by rw [← HPE.out]; exact List.mem_map_of_mem hxf
      rw [map_eraseIdx'] at hit'
      have hlen := List.length_eraseIdx_of_lt hjl
      have hpe : (x :: lx.eraseIdx j).Perm lx := by rw [← hjx]; exact erase_perm lx j hjl
      have hper2 : ((dn ++ [x.f]) ++ (lx.eraseIdx j).map FRec.f).Perm M.files := by
        refine List.Perm.trans ?_ hper
        rw [List.append_assoc]
        exact List.Perm.append_left dn (hpe.map FRec.f)
      have hok := HR.out.ok
      have hnd : ((dn ++ [x.f]).map (·.name)).Nodup := by
        have h1 : (M.files.map (·.name)).Nodup := by have := HR.out.keys; rw [← HPE.out]; simpa [List.map_map, Function.comp_def] using this
        have h2 := (hper2.map (·.name)).nodup_iff.2 h1
        rw [List.map_append] at h2
        exact (List.nodup_append.1 h2).1
      have hfn : find dn x.f.name = none := find_none (by
        rw [List.map_append, List.nodup_append] at hnd
        exact fun hin => hnd.2.2 _ hin _ (by simp) rfl)
      have hcount : dn.length < 1024 := by have h1 := hper2.length_eq; have h2 := hok.many; rw [List.length_append, List.length_append, List.length_singleton] at h1; show dn.length < 1024; omega
      have husum : used dn + x.f.data.length ≤ 67108864 := by
        have h1 := used_perm hper2; rw [used_app, used_app] at h1
        have h2 := hok.used
        have h3 : used [x.f] = x.f.data.length := by simp [used]
        omega
      obtain ⟨w2, hw2⟩ : ∃ w2, w2 = setBlock w1 W.heap.size oi' := ⟨_, rfl⟩
      rw [← hw2] at hrun
      have hgr1 : w1.heap[W.heap.size]? = some oj := by rcases hw1 with rfl | rfl <;> exact hgr
      have hk1 : Keeps (fun k => k = W.heap.size) wr w2 := by
        rw [hw2]; rcases hw1 with rfl | rfl
        · exact (Keeps.refl (fun k => k = W.heap.size) _).setBlock (.inl rfl) _
        · exact ((Keeps.refl (fun k => k = W.heap.size) _).drew).setBlock (.inl rfl) _
      have hsz := HSZ.out
      have hext2 : Ext w w2 := ext_keeps hext hk1 (fun k hk => by omega)
      have hg2 : w2.heap[W.heap.size]? = some oi' := by rw [hw2]; exact get_setBlock _ hgr1
      have hent2 := hent w2 hg2 (hext2.get HR.out.map)
      have hD2 : DiskR w2 (newF w w2) (w.heap.size + 1) w.heap.size mo' nfs { M with files := dn } := hD.move (fun k hk hl => hk1.block k hl (fun e => hk.2.2 (by omega))) (fun k hk => ⟨hk.1, Nat.lt_of_lt_of_le hk.2.1 hk1.size, hk.2.2⟩) (fun k hk => hk.2.1)
      have hfile := (HR.out.ext' hext2).file x hxf
      obtain ⟨_, _, _, _, n4⟩ := hD2.cells
      have k0 : w2.cell? ⟨x.blk, 0, none⟩ = some x.v := cell_of hfile.1 0
      have k1 : w2.cell? ⟨x.blk, 1, none⟩ = some (.int .i64 x.f.syn) := cell_of hfile.1 1
      have hdl : x.f.data.length ≤ 140737488355328 := by have := mem_used hxM; have := hok.used; omega
      have hcl : Calls Try.prog 33 #[x.v] w2.drew fun e w' => ∃ v', e = .returned v' ∧ w'.ownsRow 0 5 1 v' x.f.data.length (encB x.f.data) ∧ (∀ g, v'.ownBlock = some g → w2.heap.size ≤ g) ∧ Ext w2 w' := by
        refine (Clone_any (w := w2.drew) ((BytesAt.of_owns hfile.2).ext ((Ext.refl w2).drew)) hdl).mono ?_
        rintro e w' ⟨v', h1, h2, h3, h4⟩
        exact ⟨v', h1, h2, h3, ext_drew h4⟩
      have HCL := Lib.hid hcl; have HD2 := Lib.hid hD2; have HF := Lib.hid hfile.1; have HX2 := Lib.hid hext2; have HG2 := Lib.hid hg2
      have HIT := Lib.hid hit'; have HP2 := Lib.hid hper2; have HU := Lib.hid husum; have HCN := Lib.hid hcount; have HFN := Lib.hid hfn
      have HSY := Lib.hid (hok.syn x.f hxM); have HNM := Lib.hid (hok.names x.f hxM); have HLE := Lib.hid hlen; have HJ := Lib.hid hjl
      have HSUB := Lib.hid hsub; have HSZ2 := Lib.hid hext2.size
      clear hcl hD2 hfile hext2 hg2 hit' hper2 husum hcount hfn hok hw2 hw1 hgr1 hk1 hent hpe hjx hx hj hnd hm hit hgr hext hD hper hsub hdl hsz hjl hxM hxf hlen hr
      simp only [FRec.ent] at hrun hent2
      go_wp2
      refine wp_region_sig (tg [0,0,0,2,0,0,0,0,1,3,0,0,0,2,0,3,3]) [0,1,2,3,4,5,6,7,8,10,11,12,13,9,14,15,16] (by kernel_rfl) (by kernel_rfl) ?_
      repeat (first | (refine sig_p rfl rfl (fun K hK => ?_); go_simp; refine hK _ ?_; clear hK K) | (refine sig_q rfl rfl (fun K hK => ?_); go_simp; refine hK _ ?_; clear hK K) | (refine sig_r rfl rfl rfl (fun K hK => ?_); go_simp; refine hK _ _ _ ?_; clear hK K))
      refine sig_e rfl rfl rfl (fun K hK => ?_)
      go_simp
      refine HCL.out.mono ?_
      rintro e w3 ⟨v3, rfl, ho3, hf3, he3⟩
      have he3 : Ext w2 w3 := he3
      obtain ⟨w5, hrun5, ⟨mo5, nfs5, hD5⟩, hk5⟩ := put_step HD2.out he3 x.f.name HFN.out HNM.out HCN.out x.f.data v3 x.f.syn ho3 hf3 HSY.out HU.out
      obtain ⟨a3, c3, hv3, _⟩ := owns_slice ho3
      subst hv3
      obtain ⟨_, _, _, _, n43⟩ := (HD2.out.ext' he3).cells
      have x3 := he3.get HF.out
      have x31 : w3.cell? ⟨x.blk, 1, none⟩ = some (.int .i64 x.f.syn) := cell_of x3 1
      have lx3 := lt_of_get x3
      have ln3 : w.heap.size + 1 < w3.heap.size := lt_of_get (HD2.out.ext' he3).blk
      have HD5 := Lib.hid hD5; have HK5 := Lib.hid hk5
      clear ho3 hf3 he3 hD5 hk5 x3 n4 k0 k1
      simp only [fileO] at hrun5
      apply hK <;> clear hK K
      · repeat (first | exact keeps_none | refine keeps_waits rfl ?_ | refine keeps_put (by go_simp) ?_)
      repeat (first | (refine sig_p rfl rfl (fun K hK => ?_); go_simp; refine hK _ ?_; clear hK K))
      refine sig_e rfl rfl rfl (fun K hK => ?_)
      go_simp
      apply hK <;> clear hK K
      · repeat (first | exact keeps_none | refine keeps_waits rfl ?_ | refine keeps_put (by go_simp) ?_)
      refine sig_e rfl rfl rfl (fun K hK => ?_)
      go_simp
      apply hK <;> clear hK K
      · repeat (first | exact keeps_none | refine keeps_waits rfl ?_ | refine keeps_put (by go_simp) ?_)
      refine sig_nil ?_
      clear hrun5 hrun hent2 x31 lx3 ln3 n43
      go_wp2
      have hs2 := HSZ2.out; have hsz := HSZ.out
      have hD2s := HD2.out
      go_roundg (lx.eraseIdx j).length
      case measure => have := HLE.out; have := HJ.out; omega
      case rel =>
        have hWl : W.heap.size < w2.heap.size := lt_of_get HG2.out
        exact ⟨lx.eraseIdx j, oi', dn ++ [x.f], mo5, nfs5, rfl, HIT.out, fun y hy => HSUB.out y ((List.eraseIdx_sublist _ _).subset hy), HK5.out.get HG2.out (by omega), ext_keeps HX2.out HK5.out (fun k hk => by omega),
          HD5.out.move (fun _ _ _ => rfl) (fun k hk => by
            rcases hk with hk | hk
            · exact ⟨hk.1, Nat.lt_of_lt_of_le hk.2.1 HK5.out.size, hk.2.2⟩
            · exact ⟨by omega, hk.2, by omega⟩) (fun k hk => hk.2.1), HP2.out⟩
end Go.Proofs.Ytjbalcfdenaneaa
