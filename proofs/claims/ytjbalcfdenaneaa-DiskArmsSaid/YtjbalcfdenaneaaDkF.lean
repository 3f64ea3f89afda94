/- Walks: Append. -/
import Derived.Test.YtjbalcfdenaneaaDkE
import Derived.Test.YtjbalcfdenaneaaDkJ
namespace Go.Proofs.Ytjbalcfdenaneaa
open Go Go.RowKit Go.ChangeMaps Mu
set_option maxRecDepth 100000
attribute [local go_sem] drew_heap get_alloc

def boxB (v : Value) : Obj := .cells #[v] 27 (0, 0)
def DM.append (M : DM) (n : ByteArray) (l : List UInt8) : DM := { M with files := upd M.files n (fun f => { f with data := f.data ++ l }) }
theorem info_u8 : (Try.prog.info? 5).map (fun i => (i.zero, i.size, i.bytes)) = some (some (.int .u8 0), 1, 1) := by kernel_rfl

theorem append1_any {w : World} {F : Nat → Prop} {b m bd bn ba : Nat} {mo : Obj} {fs : List FRec} {M : DM} (h : DiskR w F b m mo fs M) (n : ByteArray) (h0 : thereE M n = 0) (va : Value) (l : List UInt8) (hva : BytesAt w va l) (hl : used M.files + l.length ≤ M.cap)
    (hd : w.heap[bd]? = some (boxD b)) (hn : w.heap[bn]? = some (boxS n)) (hba : w.heap[ba]? = some (boxB va)) (hdF : ¬ F bd) (hnF : ¬ F bn) :
    Calls Try.prog 40 #[.pointer (some ⟨bd, 0, none⟩), .pointer (some ⟨bn, 0, none⟩), .pointer (some ⟨ba, 0, none⟩)] w fun e w' => e = .returned (.tuple #[]) ∧ Disk w' (grow F w w') b (M.append n l) ∧ Keeps F w w' := by
  obtain ⟨x, hx, rfl, hfd, hag⟩ := h.there h0
  obtain ⟨l1, l2, rfl, q1, q2⟩ := h.split hx
  obtain ⟨_, _, _, _, c4⟩ := h.cells
  have hlk := fun w' hw => h.lookup x.f.name w' hw
  rw [hag] at hlk
  simp only [Option.getD_some] at hlk
  have hcn : w.cell? ⟨bn, 0, none⟩ = some (.string x.f.name) := cell_of hn 0
  have hcd : w.cell? ⟨bd, 0, none⟩ = some (.pointer (some ⟨b, 0, none⟩)) := cell_of hd 0
  have hca : w.cell? ⟨ba, 0, none⟩ = some va := cell_of hba 0
  have hfile := h.file x hx
  have hcx : w.cell? ⟨x.blk, 0, none⟩ = some x.v := cell_of hfile.1 0
  have hF : ∀ k ∈ x.foot, F k := fun k hk => h.foot k (by simp [hk])
  have hxl : x.f.data.length + l.length ≤ 67108864 := by
    have := h.ok.cap; rw [← h.files] at hl; simp [used] at hl; omega
  obtain ⟨i, hi, hz, hi1, hi2⟩ := info_parts info_u8
  obtain ⟨v', w1, hrun, hown, hgr, hblk⟩ := run_append_own_src (P := Try.prog) w.drew 0 27 27 27 5 i (.int .u8 0) 1 1 Try.underlying27 hi hz hi1 hi2 rfl x.v _ _ hfile.2 va l.length (encB l)
    (src_bytes Try.underlying27 (hva.move (fun _ _ _ => rfl))) (by unfold maxLen; omega) (by omega) (Nat.zero_le _)
  have hk1 : Keeps (fun k => k ∈ x.foot) w w1 := ((Keeps.refl (fun k => k ∈ x.foot) w).drew).grown hgr (fun k hk => .inl (by simp [FRec.foot, hk]))
  have hne : ∀ k, ¬ F k → k ∉ x.foot := fun k hk hf => hk (hF k hf)
  have hapart := h.apart
  have hbm : b ∉ x.foot ∧ m ∉ x.foot := by
    have h1 := List.nodup_cons.1 hapart
    have h2 := List.nodup_cons.1 h1.2
    exact ⟨fun hb => h1.1 (by simp [hb]), fun hm => h2.1 (by simp [hm])⟩
  have hxb : x.v.ownBlock ≠ some x.blk := fun hg => by
    simp only [List.flatMap_append, List.flatMap_cons, FRec.foot, hg, Option.toList_some] at hapart
    have h3 := (List.nodup_cons.1 (List.nodup_cons.1 hapart).2).2
    have h4 := (List.nodup_append.1 h3).2.1
    simp at h4
  have hw1x : w1.heap[x.blk]? = some (fileO x.v x.f.syn) := by
    rw [hgr.block x.blk (lt_of_get hfile.1) (fun e => hxb e.symm)]; exact hfile.1
  have d1 : w1.cell? ⟨bd, 0, none⟩ = some (.pointer (some ⟨b, 0, none⟩)) := cell_of (hk1.get hd (hne _ hdF)) 0
  have d2 : w1.cell? ⟨bn, 0, none⟩ = some (.string x.f.name) := cell_of (hk1.get hn (hne _ hnF)) 0
  have d3 : w1.cell? ⟨b, 4, none⟩ = some (.map (some m)) := cell_of (hk1.get h.blk hbm.1) 4
  have d4 : w1.cell? ⟨x.blk, 0, none⟩ = some x.v := cell_of hw1x 0
  have d5 : w1.frozen? ⟨x.blk, 0, none⟩ = false := free_of hw1x 0
  have hlk1 := hlk w1 (hk1.block m (lt_of_get h.map) hbm.2)
  have hk2 : Keeps (fun k => k ∈ x.foot) w (w1.setCell ⟨x.blk, 0, none⟩ v') := hk1.setCell (.inl (by simp [FRec.foot])) _
  have hb2 : (w1.setCell ⟨x.blk, 0, none⟩ v').heap[x.blk]? = some (fileO v' x.f.syn) := get_setCell _ hw1x
  have hlen : x.f.data.length + l.length = (x.f.data ++ l).length := by simp
  rw [hlen] at hown
  have henc : encB x.f.data ++ encB l = encB (x.f.data ++ l) := by simp [encB]
  rw [henc] at hown
  have hvx : v'.ownBlock ≠ some x.blk := fun hg => by
    rcases hblk _ hg with h1 | h1
    · exact hxb h1
    · have := lt_of_get hfile.1; exact absurd h1 (by show ¬ w.heap.size ≤ x.blk; omega)
  have ho2 : (w1.setCell ⟨x.blk, 0, none⟩ v').ownsRow 0 5 1 v' (x.f.data ++ l).length (encB (x.f.data ++ l)) := owns_move hown (fun k hkk => Below.heap_setCell _ _ _ _ (fun e => hvx (by rw [hkk]; exact congrArg some e)))
  have hup : (M.append x.f.name l).files = l1.map FRec.f ++ ⟨x.f.name, x.f.data ++ l, x.f.syn⟩ :: l2.map FRec.f := by
    simp only [DM.append]; rw [← h.files, upd_split q1 q2]
  have R := h.upd (M' := M.append x.f.name l) (x.f.data ++ l) v' x.f.syn hk2 hb2 ho2 (by
      by_cases hv : v'.ownBlock = x.v.ownBlock
      · exact .inl hv
      · exact .inr (fun g hg => (hblk g hg).resolve_left (fun e => hv (by rw [hg, e])))) (by rw [← hup]; rfl)
      (by have := h.ok.syn x.f (by rw [← h.files]; simp); simp; omega)
      (by rw [hup]; have := h.ok.cap; rw [← h.files] at hl; simp [used] at hl ⊢; omega)
  have HR := Lib.hid R; have HK := Lib.hid hk2; have HF := Lib.hid hF
  obtain ⟨av, cv, hv0, _⟩ := owns_slice hown
  rw [← hlen] at hv0
  subst hv0
  clear R hk2 hk1 hb2 ho2 hown hgr hblk hne hapart hbm hxb hvx hw1x hup henc hlen hF hfile hxl hl h0 hva hfd hag q1 q2 hx hd hn hba hdF hnF h hi hz hi1 hi2
  go_enter Try.func40, Try.ntmps40
  go_wp2
  refine wp_region_sig (tg [2,0,0,2,2,2,1,0,0,1,1,1,0,0,1,1,3,0,0,3]) [0,1,2,3,4,5,6,7,8,9,10,11,12,13,14,15,16,17,18,19] (by kernel_rfl) (by kernel_rfl) ?_
  repeat (first | (refine sig_p rfl rfl (fun K hK => ?_); go_simp; refine hK _ ?_; clear hK K) | (refine sig_q rfl rfl (fun K hK => ?_); go_simp; refine hK _ ?_; clear hK K) | (refine sig_r rfl rfl rfl (fun K hK => ?_); go_simp; refine hK _ _ _ ?_; clear hK K))
  refine sig_e rfl rfl rfl (fun K hK => ?_)
  refine wp_append _ _ _ _ rfl _ _ _ _ rfl rfl hrun ?_
  apply hK <;> clear hK K
  · repeat (first | exact keeps_none | refine keeps_waits rfl ?_ | refine keeps_put (by go_simp) ?_)
  repeat (first | (refine sig_p rfl rfl (fun K hK => ?_); go_simp; refine hK _ ?_; clear hK K))
  refine sig_e rfl rfl rfl (fun K hK => ?_)
  go_simp
  apply hK <;> clear hK K
  · repeat (first | exact keeps_none | refine keeps_waits rfl ?_)
  refine sig_nil ?_
  go_wp2
  go_end0
  exact ⟨rfl, ⟨m, mo, _, HR.out⟩, HK.out.mono (fun k _ e => HF.out k e)⟩

theorem append2_any {w : World} {F : Nat → Prop} {b m bd bn ba : Nat} {mo : Obj} {fs : List FRec} {M : DM} (h : DiskR w F b m mo fs M) (n : ByteArray) (a : Option Addr) (c k : Nat) (hk : k ≤ 1000000000)
    (hd : w.heap[bd]? = some (boxD b)) (hn : w.heap[bn]? = some (boxS n)) (hba : w.heap[ba]? = some (boxB (.slice a k c))) :
    Calls Try.prog 42 #[.pointer (some ⟨bd, 0, none⟩), .pointer (some ⟨bn, 0, none⟩), .pointer (some ⟨ba, 0, none⟩)] w fun e w' => e = .returned (.int .i64 (roomE M n k)) ∧ Ext w w' := by
  have H := Lib.hid h
  have hcn : w.cell? ⟨bn, 0, none⟩ = some (.string n) := cell_of hn 0
  have hcd : w.cell? ⟨bd, 0, none⟩ = some (.pointer (some ⟨b, 0, none⟩)) := cell_of hd 0
  have hca : w.cell? ⟨ba, 0, none⟩ = some (.slice a k c) := cell_of hba 0
  clear h hd hn hba
  go_enter Try.func42, Try.ntmps42
  go_wp2_with (go_at_call 41; refine (room_any H.out n k hk).mono ?_; rintro e w' ⟨rfl, he⟩)
  go_ret
  exact ⟨rfl, he⟩

/-- behind an Append -/
def DM.app (M : DM) (n : ByteArray) (l : List UInt8) : DM := if M.down = true then M else if roomE M n l.length = 0 then M.go.append n l else M.go
theorem roomE_zero {M : DM} {n : ByteArray} {k : Nat} (hd : M.down = false) (h : roomE M n k = 0) : thereE M n = 0 ∧ used M.files + k ≤ M.cap := by
  unfold roomE usedE at h; unfold thereE
  rw [hd] at h
  cases h1 : find M.files n
  · rw [h1] at h; simp at h
  · rw [h1] at h
    refine ⟨by simp, ?_⟩
    by_cases h2 : (used M.files : Int) + k > M.cap
    · simp at h; omega
    · omega
theorem roomE_24 (M : DM) (n : ByteArray) (k : Nat) : roomE M n k ≠ 24 := by unfold roomE; split <;> (try split) <;> decide

theorem Append_any {w : World} {F : Nat → Prop} {b : Nat} {M : DM} (h : Disk w F b M) (hst : M.steps ≤ 1000000000) (ha : M.armed ≤ 9223372036854775807) (n : ByteArray) (pv : Value) (ls : List (List UInt8)) (hp : PartsS w pv ls) (h1 : 1 ≤ ls.length) (hl : ls.flatten.length ≤ 1000000000) (hn : ls.length ≤ 1000000000) :
    Calls Try.prog 18 #[.pointer (some ⟨b, 0, none⟩), .string n, pv] w fun e w' => e = .returned (.int .i64 (cmdE M (roomE M n ls.flatten.length))) ∧ Disk w' (grow F w w') b (M.app n ls.flatten) ∧ Keeps F w w' := by
  have H := Lib.hid h
  have e1 : Ext w ((w.alloc (boxD b)).alloc (boxS n)) := ((Ext.refl w).alloc (Nat.le_refl _) _).alloc (by simp) _
  have hbd : ((w.alloc (boxD b)).alloc (boxS n)).heap[w.heap.size]? = some (boxD b) := get_alloc _ (get_new w _)
  have hbn : ((w.alloc (boxD b)).alloc (boxS n)).heap[w.heap.size + 1]? = some (boxS n) := by have := get_new (w.alloc (boxD b)) (boxS n); simpa using this
  have hj := Join_any (hp.ext e1) h1 hl hn
  have HJ := Lib.hid hj; have HE1 := Lib.hid e1
  have HBD := Lib.hid hbd; have HBN := Lib.hid hbn
  clear hj e1 hbd hbn hp h1 hn h
  simp only [boxD, boxS] at HJ
  generalize hL : ls.flatten = L at *
  clear hL ls
  go_enter Try.func18, Try.ntmps18
  go_wp2_with fail
  refine HJ.out.mono ?_
  rintro e w2 ⟨va, rfl, hva, hfr, hext⟩
  have hext : Ext ((w.alloc (boxD b)).alloc (boxS n)) w2 := hext
  have hfr : ∀ g, va.ownBlock = some g → ((w.alloc (boxD b)).alloc (boxS n)).heap.size ≤ g := hfr
  obtain ⟨av, cv, rfl⟩ : ∃ av cv, va = .slice av L.length cv := by
    rcases hva with ⟨rfl, rfl⟩ | ⟨a, cap, rfl, _⟩
    · exact ⟨_, _, rfl⟩
    · exact ⟨_, _, rfl⟩
  have hb2 := hext.get HBD.out; have hn2 := hext.get HBN.out
  have cd2 : w2.cell? ⟨w.heap.size, 0, none⟩ = some (.pointer (some ⟨b, 0, none⟩)) := cell_of hb2 0
  have cn2 : w2.cell? ⟨w.heap.size + 1, 0, none⟩ = some (.string n) := cell_of hn2 0
  have l1 := lt_of_get hb2; have l2 := lt_of_get hn2
  have hD2 := (H.out.ext HE1.out).ext hext
  obtain ⟨_, _, _, hR2⟩ := hD2
  have lb := lt_of_get hR2.blk
  obtain ⟨_, _, c2, _, _⟩ := hR2.cells
  clear hR2
  have e3 : Ext w2 (w2.alloc (boxB (.slice av L.length cv))) := (Ext.refl w2).alloc (Nat.le_refl _) _
  have hD3 := ((H.out.ext HE1.out).ext hext).ext e3
  have hb3 := e3.get hb2; have hn3 := e3.get hn2
  have hba3 : (w2.alloc (boxB (.slice av L.length cv))).heap[w2.heap.size]? = some (boxB (.slice av L.length cv)) := get_new _ _
  have hva3 := hva.ext e3
  have eW : Ext w (w2.alloc (boxB (.slice av L.length cv))) := (HE1.out.trans hext).trans e3
  have hroom : M.down = false → Calls Try.prog 41 #[.pointer (some ⟨b, 0, none⟩), .string n, .int .i64 L.length] (w2.alloc (boxB (.slice av L.length cv))) fun e w' => e = .returned (.int .i64 (roomE M n L.length)) ∧ Ext (w2.alloc (boxB (.slice av L.length cv))) w' := fun _ => by
    obtain ⟨m, mo, fs, hR⟩ := hD3; exact room_any hR n L.length hl
  have hnF : ∀ k, w.heap.size ≤ k → ¬ F k := fun k hk hf => by have := H.out.lim k hf; omega
  -- the closure 'put', in whatever world is kept
  have hput : ∀ w4 G M4, Disk w4 G b M4 → Keeps F (w2.alloc (boxB (.slice av L.length cv))) w4 → (¬ G w.heap.size) → (¬ G (w.heap.size + 1)) → M4.files = M.files → M4.cap = M.cap → M.down = false → roomE M n L.length = 0 →
      Calls Try.prog 40 #[.pointer (some ⟨w.heap.size, 0, none⟩), .pointer (some ⟨w.heap.size + 1, 0, none⟩), .pointer (some ⟨w2.heap.size, 0, none⟩)] w4 fun e w' => e = .returned (.tuple #[]) ∧ Disk w' (grow G w4 w') b (M4.append n L) ∧ Keeps G w4 w' := fun w4 G M4 hD4 hK4 g1 g2 hf hc hdn hr => by
    obtain ⟨m, mo, fs, hR⟩ := hD4
    obtain ⟨r1, r2⟩ := roomE_zero hdn hr
    exact append1_any hR n (by unfold thereE at r1 ⊢; rw [hf]; exact r1) _ L (hva3.keeps hK4 (fun k hk hf => by
      have hle : w.heap.size ≤ k := by have := hfr k hk; have := HE1.out.size; omega
      exact hnF k hle hf)) (by rw [hf, hc]; exact r2)
      (hK4.get hb3 (hnF _ (Nat.le_refl _))) (hK4.get hn3 (hnF _ (by omega))) (hK4.get hba3 (hnF _ (by omega))) g1 g2
  have hcmd : ∀ w4, Ext (w2.alloc (boxB (.slice av L.length cv))) w4 → Calls Try.prog 36 #[.pointer (some ⟨b, 0, none⟩), .func (.func 42) #[] #[.pointer (some ⟨w.heap.size, 0, none⟩), .pointer (some ⟨w.heap.size + 1, 0, none⟩), .pointer (some ⟨w2.heap.size, 0, none⟩)], .func (.func 40) #[] #[.pointer (some ⟨w.heap.size, 0, none⟩), .pointer (some ⟨w.heap.size + 1, 0, none⟩), .pointer (some ⟨w2.heap.size, 0, none⟩)]] w4 fun e w' => e = .returned (.int .i64 (cmdE M (roomE M n L.length))) ∧
      Disk w' (grow F w4 w') b (M.cmd (M.go.append n L) (roomE M n L.length)) ∧ Keeps F w4 w' := fun w4 he4 =>
    command_any (hD3.ext he4) hst ha 42 40 #[.pointer (some ⟨w.heap.size, 0, none⟩), .pointer (some ⟨w.heap.size + 1, 0, none⟩), .pointer (some ⟨w2.heap.size, 0, none⟩)] #[.pointer (some ⟨w.heap.size, 0, none⟩), .pointer (some ⟨w.heap.size + 1, 0, none⟩), .pointer (some ⟨w2.heap.size, 0, none⟩)] (roomE M n L.length) (M3 := M.go.append n L)
    (ent_of Try.func42 (by kernel_rfl) rfl) (ent_of Try.func40 (by kernel_rfl) rfl)
    (fun _ => by obtain ⟨m, mo, fs, hR⟩ := hD3.ext he4; exact append2_any hR n av cv L.length hl (he4.get hb3) (he4.get hn3) (he4.get hba3))
    (fun hdn hx _ w5 hD hK => by
      refine (hput w5 F M.go hD ((Keeps.of_ext he4).trans hK (fun _ _ h => h)) (hnF _ (Nat.le_refl _)) (hnF _ (by omega)) rfl rfl hdn hx).mono ?_
      rintro e w6 ⟨rfl, d5, k5⟩
      exact ⟨rfl, d5.mono (fun k hk => hk.imp id (fun h2 => ⟨Nat.le_trans hK.size h2.1, h2.2⟩)) (grow_lim (hD3.ext he4).lim (Nat.le_trans hK.size k5.size)), k5⟩)
  have HC := Lib.hid hcmd; have HR := Lib.hid hroom; have HP := Lib.hid hput; have HW := Lib.hid eW; have HN := Lib.hid hnF
  -- what it comes to
  have fin : ∀ w4 w5 M5, Ext (w2.alloc (boxB (.slice av L.length cv))) w4 → Disk w5 (grow F w4 w5) b M5 → Keeps F w4 w5 → Disk w5 (grow F w w5) b M5 ∧ Keeps F w w5 := fun w4 w5 M5 e4 d k =>
    have eW4 := HW.out.trans e4
    ⟨d.mono (fun j hj => hj.imp id (fun h2 => ⟨Nat.le_trans eW4.size h2.1, h2.2⟩)) (grow_lim H.out.lim (Nat.le_trans eW4.size k.size)), (Keeps.of_ext eW4).trans k (fun _ _ h => h)⟩
  have HFIN := Lib.hid fin
  have fin2 : ∀ w4 w5 w6 M5, Ext (w2.alloc (boxB (.slice av L.length cv))) w4 → Keeps F w4 w5 → Disk w6 (grow (grow F w4 w5) w5 w6) b M5 → Keeps (grow F w4 w5) w5 w6 → Disk w6 (grow F w w6) b M5 ∧ Keeps F w w6 := fun w4 w5 w6 M5 e4 k5 d k => by
    have eW4 := HW.out.trans e4
    have h1 : ∀ j, grow (grow F w4 w5) w5 w6 j → grow F w w6 j := fun j hj => by
      rcases hj with (hj | hj) | hj
      · exact .inl hj
      · exact .inr ⟨Nat.le_trans eW4.size hj.1, Nat.lt_of_lt_of_le hj.2 k.size⟩
      · exact .inr ⟨Nat.le_trans (Nat.le_trans eW4.size k5.size) hj.1, hj.2⟩
    refine ⟨d.mono h1 (grow_lim H.out.lim (Nat.le_trans eW4.size (Nat.le_trans k5.size k.size))), ((Keeps.of_ext eW4).trans k5 (fun _ _ h => h)).trans k (fun j hl hj => ?_)⟩
    rcases hj with hj | hj
    · exact hj
    · exact absurd hj.1 (by have := eW4.size; omega)
  have HFIN2 := Lib.hid fin2
  have hsz3 : w2.heap.size < (w2.alloc (boxB (.slice av L.length cv))).heap.size := by simp
  have hin : ∀ w4 w5, Ext (w2.alloc (boxB (.slice av L.length cv))) w4 → ∀ k, w.heap.size ≤ k → k ≤ w.heap.size + 1 → ¬ grow F w4 w5 k := fun w4 w5 e4 k h1 h2 hg => by
    rcases hg with hg | hg
    · exact HN.out k h1 hg
    · have := e4.size; have := hg.1; omega
  have HIN := Lib.hid hin
  have HB3 := Lib.hid hb3; have HN3 := Lib.hid hn3
  clear hcmd hroom hput eW hnF fin fin2 hin hD3 hb3 hn3 hba3 hva3 e3 hb2 hn2 hva hfr hst ha
  simp only [boxB] at HC HR HP HW HFIN HFIN2 HIN hsz3 HB3 HN3
  have c3 : ∀ o, (w2.alloc o).cell? ⟨b, 2, none⟩ = some (.bool M.down) := fun o => by rw [World.cell?_of_block (w := w2) (Below.heap_alloc w2 o b lb)]; exact c2
  rcases Bool.eq_false_or_eq_true M.down with hdn | hdn
  · have q1 : cmdE M (roomE M n L.length) = 24 := by simp [cmdE, hdn]
    have q2 : M.app n L = M := by simp [DM.app, hdn]
    have q3 : M.cmd (M.go.append n L) (roomE M n L.length) = M := by simp [DM.cmd, hdn]
    rw [q1, q3] at HC
    have Q1 := Lib.hid q1; have Q2 := Lib.hid q2
    have HC := Lib.hid (HC.out _ (Ext.refl _))
    rw [hdn] at c2 c3
    clear hdn q1 q2 q3
    go_wp2_with (first | (go_at_call 36; refine HC.out.mono ?_; rintro e w5 ⟨rfl, d5, k5⟩; have HF5 := Lib.hid (HFIN.out _ w5 _ (Ext.refl _) d5 k5); clear d5 k5))
    go_ret
    exact ⟨by rw [Q1.out]; rfl, by rw [Q2.out]; exact HF5.out.1, HF5.out.2⟩
  · have HR := Lib.hid (HR.out hdn)
    rw [hdn] at c2 c3
    have hne := roomE_24 M n L.length
    have HDN := Lib.hid hdn
    clear hdn
    have hroomcell : ∀ w4, Ext (w2.alloc (.cells #[.slice av L.length cv] 27)) w4 → w4.cell? ⟨w.heap.size, 0, none⟩ = some (.pointer (some ⟨b, 0, none⟩)) ∧ w4.cell? ⟨w.heap.size + 1, 0, none⟩ = some (.string n) := fun w4 e4 => ⟨cell_of (e4.get HB3.out) 0, cell_of (e4.get HN3.out) 0⟩
    have HCE := Lib.hid hroomcell
    clear hroomcell
    by_cases hr : roomE M n L.length = 0
    · have HRR := Lib.hid hr
      rw [hr] at HR
      have q2 : M.app n L = M.go.append n L := by simp [DM.app, HDN.out, hr]
      have Q2 := Lib.hid q2
      by_cases ha1 : M.armed = 1
      · have q1 : cmdE M (roomE M n L.length) = 24 := by simp [cmdE, ha1]
        have q3 : M.cmd (M.go.append n L) (roomE M n L.length) = M.go := by simp [DM.cmd, HDN.out, ha1]
        rw [q1, q3] at HC
        have Q1 := Lib.hid q1
        clear q1 q2 q3 ha1 hr hne
        go_wp2_with (first | (go_at_call 41; refine HR.out.mono ?_; rintro e w4 ⟨rfl, e4⟩; obtain ⟨cd4, cn4⟩ := HCE.out w4 e4) | (go_at_call 36; refine (HC.out w4 e4).mono ?_; rintro e w5 ⟨rfl, d5, k5⟩; have HD5 := Lib.hid d5; have HK5 := Lib.hid k5; clear d5 k5) | (go_at_call 40; refine (HP.out w5 (grow F w4 w5) M.go HD5.out ((Keeps.of_ext e4).trans HK5.out (fun _ _ h => h)) (HIN.out w4 w5 e4 _ (Nat.le_refl _) (by omega)) (HIN.out w4 w5 e4 _ (by omega) (by omega)) rfl rfl HDN.out HRR.out).mono ?_; rintro e w6 ⟨rfl, d6, k6⟩; have HF6 := Lib.hid (HFIN2.out w4 w5 w6 _ e4 HK5.out d6 k6); clear d6 k6))
        go_ret
        exact ⟨by rw [Q1.out]; rfl, by rw [Q2.out]; exact HF6.out.1, HF6.out.2⟩
      · have q1 : cmdE M (roomE M n L.length) = 0 := by simp [cmdE, ha1, HDN.out, hr]
        have q3 : M.cmd (M.go.append n L) (roomE M n L.length) = M.go.append n L := by simp [DM.cmd, HDN.out, ha1, hr]
        rw [q1, q3] at HC
        have Q1 := Lib.hid q1
        clear q1 q2 q3 ha1 hr hne
        go_wp2_with (first | (go_at_call 41; refine HR.out.mono ?_; rintro e w4 ⟨rfl, e4⟩; obtain ⟨cd4, cn4⟩ := HCE.out w4 e4) | (go_at_call 36; refine (HC.out w4 e4).mono ?_; rintro e w5 ⟨rfl, d5, k5⟩; have HF5 := Lib.hid (HFIN.out w4 w5 _ e4 d5 k5); clear d5 k5))
        go_ret
        exact ⟨by rw [Q1.out]; rfl, by rw [Q2.out]; exact HF5.out.1, HF5.out.2⟩
    · have hr' : (roomE M n L.length == 0) = false := by simpa using hr
      have q2 : M.app n L = M.go := by simp [DM.app, HDN.out, hr]
      have q3 : M.cmd (M.go.append n L) (roomE M n L.length) = M.go := by simp [DM.cmd, HDN.out, hr]
      have Q2 := Lib.hid q2
      rw [q3] at HC
      by_cases ha1 : M.armed = 1
      · have q1 : cmdE M (roomE M n L.length) = 24 := by simp [cmdE, ha1]
        rw [q1] at HC
        have Q1 := Lib.hid q1
        clear q1 q2 q3 ha1 hr hne
        go_wp2_with (first | (go_at_call 41; refine HR.out.mono ?_; rintro e w4 ⟨rfl, e4⟩; obtain ⟨cd4, cn4⟩ := HCE.out w4 e4) | (go_at_call 36; refine (HC.out w4 e4).mono ?_; rintro e w5 ⟨rfl, d5, k5⟩; have HF5 := Lib.hid (HFIN.out w4 w5 _ e4 d5 k5); clear d5 k5))
        go_ret
        exact ⟨by rw [Q1.out]; rfl, by rw [Q2.out]; exact HF5.out.1, HF5.out.2⟩
      · have q1 : cmdE M (roomE M n L.length) = roomE M n L.length := by simp [cmdE, ha1, HDN.out]
        have hne' : (roomE M n L.length == 24) = false := by simpa using hne
        rw [q1] at HC
        have Q1 := Lib.hid q1
        clear q1 q2 q3 ha1 hr hne
        go_wp2_with (first | (go_at_call 41; refine HR.out.mono ?_; rintro e w4 ⟨rfl, e4⟩; obtain ⟨cd4, cn4⟩ := HCE.out w4 e4) | (go_at_call 36; refine (HC.out w4 e4).mono ?_; rintro e w5 ⟨rfl, d5, k5⟩; have HF5 := Lib.hid (HFIN.out w4 w5 _ e4 d5 k5); clear d5 k5))
        go_ret
        exact ⟨by rw [Q1.out]; rfl, by rw [Q2.out]; exact HF5.out.1, HF5.out.2⟩
end Go.Proofs.Ytjbalcfdenaneaa
