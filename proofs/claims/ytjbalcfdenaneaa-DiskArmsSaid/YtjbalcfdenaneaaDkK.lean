/- Walks: Crash. -/
import Derived.Test.YtjbalcfdenaneaaDkH
namespace Go.Proofs.Ytjbalcfdenaneaa
open Go Go.RowKit Go.ChangeMaps Mu
set_option maxRecDepth 100000
set_option maxHeartbeats 1000000
attribute [local go_sem] drew_heap get_alloc

abbrev Ch := Nat × Nat × UInt8
def chO (c : Ch) : Value := .agg #[.int .u64 c.1, .int .u64 c.2.1, .int .u8 c.2.2.toNat]
def crashF (c : Ch) (f : DF) : DF := { f with data := crashD f.data f.syn c.1 c.2.1 c.2.2, syn := (crashD f.data f.syn c.1 c.2.1 c.2.2).length }
def chAt (l : List Ch) (i : Nat) : Ch := l.getD i (0, 0, 0)
def chOk (l : List Ch) : Prop := ∀ c ∈ l, c.1 ≤ 18446744073709551615 ∧ c.2.1 ≤ 18446744073709551615
def nameAt (l : List (List UInt8)) (i : Nat) : ByteArray := ⟨(l.getD i []).toArray⟩
/-- behind i rounds of Crash -/
def DM.crashN (M : DM) (l : List Ch) : Nat → DM
  | 0 => M
  | i + 1 => { M.crashN l i with files := upd (M.crashN l i).files (nameAt M.rise i) (crashF (chAt l i)) }
def DM.crash (M : DM) (l : List Ch) : DM := { M.crashN l M.rise.length with armed := 0, down := false }

def ChoicesAt (w : World) (lv : Value) (l : List Ch) : Prop :=
  ((∃ a c, lv = .slice a 0 c) ∧ l = []) ∨ ∃ g o c, lv = .slice (some ⟨g, o, none⟩) l.length c ∧ l.length ≤ c ∧ ∀ i (h : i < l.length), w.cell? ⟨g, o + i * 3, none⟩ = some (.int .u64 l[i].1) ∧ w.cell? ⟨g, o + i * 3 + 1, none⟩ = some (.int .u64 l[i].2.1) ∧ w.cell? ⟨g, o + i * 3 + 2, none⟩ = some (.int .u8 l[i].2.2.toNat)

theorem crashD_len (data : List UInt8) (syn K A : Nat) (fl : UInt8) (h : syn ≤ data.length) : (crashD data syn K A fl).length ≤ data.length := by
  unfold crashD
  simp only []
  split <;> simp <;> omega

def InvC (F : Nat → Prop) (w1 : World) (b : Nat) (M : DM) (w : World) : Prop := Disk w (grow F w1 w) b M ∧ Keeps F w1 w
theorem InvC.ext {F : Nat → Prop} {w1 w w' : World} {b : Nat} {M : DM} (h : InvC F w1 b M w) (he : Ext w w') : InvC F w1 b M w' :=
  ⟨(h.1.ext he).mono (fun _ hk => hk.imp id (fun g => ⟨g.1, Nat.lt_of_lt_of_le g.2 he.size⟩)) (fun k hk => by
      rcases hk with hk | hk
      · exact Nat.lt_of_lt_of_le (h.1.lim k (.inl hk)) he.size
      · exact hk.2), h.2.trans (Keeps.of_ext (F := F) he) (fun _ _ h => h)⟩
theorem InvC.trans {F : Nat → Prop} {w1 w w' : World} {b : Nat} {M M' : DM} (h : InvC F w1 b M w) (h' : InvC (grow F w1 w) w b M' w') : InvC F w1 b M' w' := by
  have h1 : ∀ j, grow (grow F w1 w) w w' j → grow F w1 w' j := fun j hj => by
    rcases hj with (hj | hj) | hj
    · exact .inl hj
    · exact .inr ⟨hj.1, Nat.lt_of_lt_of_le hj.2 h'.2.size⟩
    · exact .inr ⟨Nat.le_trans h.2.size hj.1, hj.2⟩
  refine ⟨h'.1.mono h1 (fun k hk => ?_), h.2.trans h'.2 (fun j hl hj => ?_)⟩
  · rcases hk with hk | hk
    · exact Nat.lt_of_lt_of_le (h.1.lim k (.inl hk)) h'.2.size
    · exact hk.2
  · rcases hj with hj | hj
    · exact hj
    · exact absurd hj.1 (by omega)

theorem crash_step {w : World} {F : Nat → Prop} {b m : Nat} {mo : Obj} {fs : List FRec} {M : DM} (h : DiskR w F b m mo fs M) {x : FRec} (hx : x ∈ fs) (c : Ch) (h1 : c.1 ≤ 18446744073709551615) (h2 : c.2.1 ≤ 18446744073709551615) :
    Calls Try.prog 53 #[.pointer (some ⟨x.blk, 0, none⟩), chO c] w fun e w' => e = .returned (.tuple #[]) ∧ InvC F w b { M with files := upd M.files x.f.name (crashF c) } w' := by
  have hfile := h.file x hx
  have hxf : x.f ∈ M.files := by rw [← h.files]; exact List.mem_map_of_mem hx
  have hs := h.ok.syn x.f hxf
  have hu := mem_used hxf
  have hcap := h.ok.cap; have hus := h.ok.used
  obtain ⟨l1, l2, rfl, q1, q2⟩ := h.split hx
  have hapart := h.apart
  have hxb : x.v.ownBlock ≠ some x.blk := fun hg => by
    simp only [List.flatMap_append, List.flatMap_cons, FRec.foot, hg, Option.toList_some] at hapart
    have h3 := (List.nodup_cons.1 (List.nodup_cons.1 hapart).2).2
    have h4 := (List.nodup_append.1 h3).2.1
    simp at h4
  refine (crash_any hfile.1 hfile.2 hxb hs (by omega) c.1 c.2.1 h1 h2 c.2.2).mono ?_
  rintro e w' ⟨rfl, v', hb, ho, hn, hk⟩
  have hk' : Keeps (fun k => k ∈ x.foot) w w' := hk.mono (fun k _ e => by subst e; simp [FRec.foot])
  have hup : upd M.files x.f.name (crashF c) = l1.map FRec.f ++ ⟨x.f.name, crashD x.f.data x.f.syn c.1 c.2.1 c.2.2, (crashD x.f.data x.f.syn c.1 c.2.1 c.2.2).length⟩ :: l2.map FRec.f := by
    rw [← h.files, upd_split q1 q2]; rfl
  have hcl := crashD_len x.f.data x.f.syn c.1 c.2.1 c.2.2 hs
  have R := h.upd (M' := { M with files := upd M.files x.f.name (crashF c) }) (crashD x.f.data x.f.syn c.1 c.2.1 c.2.2) v' _ hk' hb ho (.inr hn) (by rw [hup]) (Nat.le_refl _) (by
    show used (upd M.files x.f.name (crashF c)) ≤ _
    rw [hup]; rw [← h.files] at hus; simp [used] at hus ⊢; omega)
  exact ⟨rfl, ⟨m, mo, _, R⟩, hk'.mono (fun k _ e => h.foot k (by simp [e]))⟩

theorem upd_names (l : List DF) (n : ByteArray) (g : DF → DF) (hg : ∀ f, (g f).name = f.name) : (upd l n g).map (·.name) = l.map (·.name) := by
  unfold upd; rw [List.map_map]; exact List.map_congr_left (fun f _ => by simp only [Function.comp]; split <;> simp [hg])
theorem crashN_names (M : DM) (l : List Ch) : ∀ i, (M.crashN l i).files.map (·.name) = M.files.map (·.name)
  | 0 => rfl
  | i + 1 => by simp only [DM.crashN]; rw [upd_names _ _ (crashF (chAt l i)) (fun _ => rfl)]; exact crashN_names M l i
theorem crashN_rest (M : DM) (l : List Ch) : ∀ i, (M.crashN l i).steps = M.steps ∧ (M.crashN l i).cap = M.cap ∧ (M.crashN l i).armed = M.armed ∧ (M.crashN l i).down = M.down
  | 0 => ⟨rfl, rfl, rfl, rfl⟩
  | i + 1 => crashN_rest M l i
theorem rise_len (M : DM) : M.rise.length = M.files.length := by simp [DM.rise, Ytjbalcfdenaneaa.rise]
theorem rise_mem (M : DM) {i : Nat} (hi : i < M.rise.length) : nameAt M.rise i ∈ M.files.map (·.name) := by
  have h1 : M.rise[i] ∈ M.rise := List.getElem_mem hi
  have h2 : M.rise[i] ∈ (M.files.map (·.name)).map (fun n => n.data.toList) := by
    have := (List.mergeSort_perm ((M.files.map (·.name)).map (fun n => n.data.toList)) (fun x y => decide (x ≤ y))).mem_iff.1 h1
    exact this
  obtain ⟨n, hn, he⟩ := List.mem_map.1 h2
  have : nameAt M.rise i = n := by
    unfold nameAt
    rw [List.getD_eq_getElem?_getD, List.getElem?_eq_getElem hi, Option.getD_some, ← he]
  rw [this]; exact hn
theorem find_of_mem {l : List DF} {n : ByteArray} (h : n ∈ l.map (·.name)) : (find l n).isNone = false := by
  obtain ⟨f, hf, rfl⟩ := List.mem_map.1 h
  cases hq : find l f.name
  · unfold find at hq; rw [List.find?_eq_none] at hq; exact absurd (by simp) (hq f hf)
  · rfl

theorem Crash_any {w : World} {F : Nat → Prop} {b : Nat} {M : DM} (h : Disk w F b M) (lv : Value) (l : List Ch) (hl : ChoicesAt w lv l) (hlF : ∀ k, lv.ownBlock = some k → ¬ F k) (hok : chOk l) :
    Calls Try.prog 25 #[.pointer (some ⟨b, 0, none⟩), lv] w fun e w' => e = .returned (.tuple #[]) ∧ Disk w' (grow F w w') b (M.crash l) ∧ Keeps F w w' := by
  have H := Lib.hid h
  have hN : M.rise.length ≤ 1024 := by rw [rise_len]; exact h.ok.many
  clear h
  have HL := Lib.hid hl; have HF := Lib.hid hlF; have HOK := Lib.hid hok
  clear hl hlF hok
  go_enter Try.func25, Try.ntmps25
  go_wp2_with fail
  refine (names_any H.out).mono ?_
  rintro e w1 ⟨v, rfl, ho, hf, -, he⟩
  obtain ⟨av, cv, rfl, _⟩ := owns_slice ho
  have hinv0 : InvC F w1 b M w1 := ⟨(H.out.ext he).mono (fun _ h => .inl h) (grow_lim (H.out.ext he).lim (Nat.le_refl _)), Keeps.refl F w1⟩
  have HO := Lib.hid ho; have HNF := Lib.hid hf; have HE := Lib.hid he; have HI0 := Lib.hid hinv0
  clear ho hf he hinv0
  go_wp2_with fail
  go_loopg [10] M.rise.length (fun g s10 wr => ∃ i : Nat, s10 = .int .i64 i ∧ i ≤ M.rise.length ∧ g = M.rise.length - i ∧ InvC F w1 b (M.crashN l i) wr)
  case atStart => exact ⟨0, rfl, Nat.zero_le _, rfl, HI0.out⟩
  case round =>
    obtain ⟨i, rfl, hi, hg, hinv⟩ := hrel
    rcases Nat.lt_or_ge i M.rise.length with hlt | hge
    · obtain ⟨g0, rfl⟩ : ∃ g0, av = some ⟨g0, 0, none⟩ := by
        rcases HO.out.2 with ⟨_, h0⟩ | ⟨g, cap, cur, h1, _⟩
        · omega
        · cases h1; exact ⟨g, rfl⟩
      have hF0 : ¬ F g0 := fun hk => by have := HNF.out g0 rfl; have := H.out.lim g0 hk; omega
      have hname : wr.cell? ⟨g0, i, none⟩ = some (.string (nameAt M.rise i)) := by
        have := owns_move HO.out (w' := wr) (fun k hk => by
          cases hk; exact hinv.2.block g0 (HO.out.lt g0 rfl).2 hF0)
        rw [this.cellAt i (by omega)]
        simp [hlt, encStr, nameAt]
      have hmem := rise_mem M hlt
      have hfi : (find (M.crashN l i).files (nameAt M.rise i)).isNone = false := find_of_mem (by rw [crashN_names]; exact hmem)
      have hz0 : b < wr.heap.size := by obtain ⟨m, mo, fs, hR⟩ := hinv.1; exact lt_of_get hR.blk
      have key : ∀ c : Ch, c.1 ≤ 18446744073709551615 → c.2.1 ≤ 18446744073709551615 → ∃ m xb, (wr.alloc (boxC c.1 c.2.1 c.2.2)).cell? ⟨b, 4, none⟩ = some (.map (some m)) ∧ m < wr.heap.size ∧
          (∀ w', w'.heap[m]? = (wr.alloc (boxC c.1 c.2.1 c.2.2)).heap[m]? → (Instr.lookup 49 (.map (some m)) (.string (nameAt M.rise i)) false).run Try.prog w' = .ok (.pointer (some ⟨xb, 0, none⟩)) w') ∧
          Calls Try.prog 53 #[.pointer (some ⟨xb, 0, none⟩), chO c] (wr.alloc (boxC c.1 c.2.1 c.2.2)).drew fun e w' => e = .returned (.tuple #[]) ∧ InvC F w1 b { M.crashN l i with files := upd (M.crashN l i).files (nameAt M.rise i) (crashF c) } w' := fun c h1 h2 => by
        have hI2 : InvC F w1 b (M.crashN l i) (wr.alloc (boxC c.1 c.2.1 c.2.2)).drew := hinv.ext (((Ext.refl wr).alloc (Nat.le_refl _) _).drew)
        obtain ⟨m, mo, fs, hR⟩ := hI2.1
        rcases hR.look (nameAt M.rise i) with ⟨q1, _⟩ | ⟨x, hx, q1, q2, q3⟩
        · rw [q1] at hfi; simp at hfi
        · have hlk := fun w' hw => hR.lookup (nameAt M.rise i) w' hw
          rw [q3] at hlk
          obtain ⟨_, _, _, _, c4⟩ := hR.cells
          obtain ⟨m2, mo2, fs2, hR2⟩ := hinv.1
          obtain ⟨_, _, _, _, c42⟩ := hR2.cells
          have hm2 : m = m2 := by
            have e1 : (wr.alloc (boxC c.1 c.2.1 c.2.2)).cell? ⟨b, 4, none⟩ = wr.cell? ⟨b, 4, none⟩ := World.cell?_of_block (w := wr) (Below.heap_alloc wr _ b hz0)
            have e2 : (wr.alloc (boxC c.1 c.2.1 c.2.2)).cell? ⟨b, 4, none⟩ = some (.map (some m)) := c4
            rw [e1, c42] at e2
            cases e2; rfl
          refine ⟨m, x.blk, c4, hm2 ▸ lt_of_get hR2.map, hlk, ?_⟩
          refine (crash_step hR hx c h1 h2).mono ?_
          rintro e w' ⟨rfl, hi'⟩
          rw [q2] at hi'
          exact ⟨rfl, hI2.trans hi'⟩
      have HKEY := Lib.hid key
      have HG := Lib.hid hg; have HI := Lib.hid hinv; have HF0 := Lib.hid hF0
      clear hg hinv hF0 hi key hfi hmem
      by_cases hil : i < l.length
      · have hch : chAt l i = l[i] := by simp [chAt, hil]
        have HCH := Lib.hid hch
        have hin := HOK.out l[i] (List.getElem_mem hil)
        obtain ⟨m, xb, y1, y2, y3, y4⟩ := HKEY.out l[i] hin.1 hin.2
        have HY := Lib.hid y4
        clear y4 hin hch
        obtain ⟨gl, ol, cl, rfl, hcl, hcells⟩ : ∃ g o c, lv = .slice (some ⟨g, o, none⟩) l.length c ∧ l.length ≤ c ∧ ∀ i (h : i < l.length), w.cell? ⟨g, o + i * 3, none⟩ = some (.int .u64 l[i].1) ∧ w.cell? ⟨g, o + i * 3 + 1, none⟩ = some (.int .u64 l[i].2.1) ∧ w.cell? ⟨g, o + i * 3 + 2, none⟩ = some (.int .u8 l[i].2.2.toNat) := by
          rcases HL.out with ⟨_, h0⟩ | h1
          · rw [h0] at hil; simp at hil
          · exact h1
        obtain ⟨k0, k1, k2⟩ := hcells i hil
        have hgl : wr.heap[gl]? = w.heap[gl]? := by
          have h1 := World.block_lt_of_cell? w _ k0
          rw [HI.out.2.block gl (Nat.lt_of_lt_of_le h1 HE.out.size) (HF.out gl rfl)]
          exact HE.out.block gl h1
        have k0 : wr.cell? ⟨gl, ol + i * 3, none⟩ = some (.int .u64 l[i].1) := by rw [World.cell?_of_block (w := w) hgl]; exact k0
        have k1 : wr.cell? ⟨gl, ol + i * 3 + 1, none⟩ = some (.int .u64 l[i].2.1) := by rw [World.cell?_of_block (w := w) hgl]; exact k1
        have k2 : wr.cell? ⟨gl, ol + i * 3 + 2, none⟩ = some (.int .u8 l[i].2.2.toNat) := by rw [World.cell?_of_block (w := w) hgl]; exact k2
        have hblt : gl < wr.heap.size := World.block_lt_of_cell? wr _ k0
        clear hgl hcl hcells
        generalize hcc : l[i] = c at *
        obtain ⟨c1, c2, c3⟩ := c
        simp only [boxC, chO] at y1 y3 HY k0 k1 k2
        go_wp2
        have hb1 : (wr.alloc (.cells #[.int .u64 c1, .int .u64 c2, .int .u8 c3.toNat] 74)).heap[wr.heap.size]? = some (.cells #[.int .u64 c1, .int .u64 c2, .int .u8 c3.toNat] 74 (0, 0)) := get_new _ _
        have d0 := cell_of hb1 0; have d1 := cell_of hb1 1; have d2 := cell_of hb1 2
        clear hb1 k0 k1 k2
        refine wp_region_sig (tg [0,0,0,1,0,1,1,3]) [0,1,2,3,4,5,6,7] (by kernel_rfl) (by kernel_rfl) ?_
        repeat (first | (refine sig_p rfl rfl (fun K hK => ?_); go_simp; refine hK _ ?_; clear hK K) | (refine sig_q rfl rfl (fun K hK => ?_); go_simp; refine hK _ ?_; clear hK K) | (refine sig_r rfl rfl rfl (fun K hK => ?_); go_simp; refine hK _ _ _ ?_; clear hK K))
        refine sig_e rfl rfl rfl (fun K hK => ?_)
        go_simp
        refine HY.out.mono ?_
        rintro e w3 ⟨rfl, hI3⟩
        have HI3 := Lib.hid hI3
        clear hI3 d0 d1 d2 y1 y3
        apply hK <;> clear hK K
        · repeat (first | exact keeps_none | refine keeps_waits rfl ?_ | refine keeps_put (by go_simp) ?_)
        refine sig_nil ?_
        go_wp2
        go_roundg (M.rise.length - (i + 1))
        case measure => have := HG.out; omega
        case rel => exact ⟨i + 1, by go_num, by omega, rfl, by simp only [DM.crashN]; rw [HCH.out]; exact HI3.out⟩
      · have hch : chAt l i = (0, 0, 0) := by simp [chAt, hil]
        have HCH := Lib.hid hch
        obtain ⟨m, xb, y1, y2, y3, y4⟩ := HKEY.out (0, 0, 0) (by decide) (by decide)
        have HY := Lib.hid y4
        clear y4 hch
        obtain ⟨al, cl, rfl⟩ : ∃ al cl, lv = .slice al l.length cl := by
          rcases HL.out with ⟨⟨a, c, h1⟩, h0⟩ | ⟨g, o, c, h1, _⟩
          · exact ⟨a, c, by rw [h1, h0]; rfl⟩
          · exact ⟨_, _, h1⟩
        have hil : l.length ≤ i := by omega
        simp only [boxC, chO, Int.cast_ofNat_Int, show ((0 : UInt8).toNat : Int) = 0 from rfl] at y1 y3 HY
        go_wp2
        have hb1 : (wr.alloc (.cells #[.int .u64 0, .int .u64 0, .int .u8 0] 74)).heap[wr.heap.size]? = some (.cells #[.int .u64 0, .int .u64 0, .int .u8 0] 74 (0, 0)) := get_new _ _
        have d0 := cell_of hb1 0; have d1 := cell_of hb1 1; have d2 := cell_of hb1 2
        clear hb1
        refine wp_region_sig (tg [0,0,0,1,0,1,1,3]) [0,1,2,3,4,5,6,7] (by kernel_rfl) (by kernel_rfl) ?_
        repeat (first | (refine sig_p rfl rfl (fun K hK => ?_); go_simp; refine hK _ ?_; clear hK K) | (refine sig_q rfl rfl (fun K hK => ?_); go_simp; refine hK _ ?_; clear hK K) | (refine sig_r rfl rfl rfl (fun K hK => ?_); go_simp; refine hK _ _ _ ?_; clear hK K))
        refine sig_e rfl rfl rfl (fun K hK => ?_)
        go_simp
        refine HY.out.mono ?_
        rintro e w3 ⟨rfl, hI3⟩
        have HI3 := Lib.hid hI3
        clear hI3 d0 d1 d2 y1 y3
        apply hK <;> clear hK K
        · repeat (first | exact keeps_none | refine keeps_waits rfl ?_ | refine keeps_put (by go_simp) ?_)
        refine sig_nil ?_
        go_wp2
        go_roundg (M.rise.length - (i + 1))
        case measure => have := HG.out; omega
        case rel => exact ⟨i + 1, by go_num, by omega, rfl, by simp only [DM.crashN]; rw [HCH.out]; exact HI3.out⟩
    · have hiN : i = M.rise.length := by omega
      subst hiN
      have hI := hinv
      obtain ⟨m, mo, fs, hR⟩ := hinv.1
      obtain ⟨r1, r2, r3, r4⟩ := crashN_rest M l M.rise.length
      obtain ⟨c0, c1, c2, c3, c4⟩ := hR.cells
      rw [r1] at c1
      have f0 := free_of hR.blk 0; have f1 := free_of hR.blk 1; have f2 := free_of hR.blk 2
      have hk5 : Keeps (fun k => k = b) wr (((wr.setCell ⟨b, 0, none⟩ (.int .i64 0)).setCell ⟨b, 1, none⟩ (.int .i64 M.steps)).setCell ⟨b, 2, none⟩ (.bool false)) :=
        (((Keeps.refl (fun k => k = b) wr).setCell (.inl rfl) _).setCell (.inl rfl) _).setCell (.inl rfl) _
      have hb5 := get_setCell (i := 2) (.bool false) (get_setCell (i := 1) (.int .i64 M.steps) (get_setCell (i := 0) (.int .i64 0) hR.blk))
      have hR5 := hR.setBlk (M' := M.crash l) (by rw [hb5]; simp [diskO, DM.crash, r1]) hk5 rfl rfl
      have hFb : grow F w1 wr b := hR.foot b (by simp)
      have hI5 : InvC F w1 b (M.crash l) (((wr.setCell ⟨b, 0, none⟩ (.int .i64 0)).setCell ⟨b, 1, none⟩ (.int .i64 M.steps)).setCell ⟨b, 2, none⟩ (.bool false)) :=
        hI.trans ⟨⟨m, mo, fs, hR5.move (fun _ _ _ => rfl) (fun _ h => .inl h) (grow_lim hR.lim hk5.size)⟩, hk5.mono (fun k _ e => by subst e; exact hFb)⟩
      have HI5 := Lib.hid hI5
      clear hI hR hinv hg hge hi r1 r2 r3 r4 hk5 hb5 hR5 hFb hI5
      go_wp2
      go_end0
      have eW := HE.out
      exact ⟨rfl, HI5.out.1.mono (fun k hk => hk.imp id (fun g => ⟨Nat.le_trans eW.size g.1, g.2⟩)) (grow_lim H.out.lim (Nat.le_trans eW.size HI5.out.2.size)), (Keeps.of_ext eW).trans HI5.out.2 (fun _ _ h => h)⟩
end Go.Proofs.Ytjbalcfdenaneaa
