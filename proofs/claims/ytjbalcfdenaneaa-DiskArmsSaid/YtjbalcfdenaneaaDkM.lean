/- Walks: Of and New. -/
import Derived.Test.YtjbalcfdenaneaaDkL
namespace Go.Proofs.Ytjbalcfdenaneaa
open Go Go.RowKit Go.ChangeMaps Mu
set_option maxRecDepth 100000
set_option maxHeartbeats 1000000
attribute [local go_sem] drew_heap get_alloc

abbrev FI := ByteArray × List UInt8
def mkF (f : FI) : DF := ⟨f.1, f.2, f.2.length⟩
/-- the first fault of the files that are left -/
def ofScan (done : List DF) : List FI → Int
  | [] => 0
  | f :: r => if okName f.1 = false then 25 else if (find done f.1).isSome = true then 15 else ofScan (done ++ [mkF f]) r
def ofE (C : Int) (l : List FI) : Int := if C < 0 ∨ 67108864 < C then 11 else if 1024 < l.length then 12 else if ofScan [] l ≠ 0 then ofScan [] l else if C < (used (l.map mkF) : Nat) then 23 else 0
def ofM (C : Int) (l : List FI) : DM := ⟨0, 0, false, C.toNat, l.map mkF⟩
def FilesAt (w : World) (v : Value) (l : List FI) : Prop :=
  ((∃ a c, v = .slice a 0 c) ∧ l = []) ∨ ∃ g o c, v = .slice (some ⟨g, o, none⟩) l.length c ∧ l.length ≤ c ∧ ∀ i (h : i < l.length), w.cell? ⟨g, o + i * 2, none⟩ = some (.string l[i].1) ∧ ∃ u, w.cell? ⟨g, o + i * 2 + 1, none⟩ = some u ∧ BytesAt w u l[i].2

def newG (w wr : World) : Nat → Prop := fun k => w.heap.size ≤ k ∧ k < wr.heap.size
theorem of_start {w : World} (C : Nat) (hC : C ≤ 67108864) (W : World) (hs : W.heap.size = w.heap.size + 2) (hm : W.heap[w.heap.size]? = some (.map #[] 0)) (hb : W.heap[w.heap.size + 1]? = some (diskO ⟨0, 0, false, C, []⟩ w.heap.size)) :
    DiskR W (newG w W) (w.heap.size + 1) w.heap.size (.map #[] 0) [] ⟨0, 0, false, C, []⟩ :=
  ⟨hb, hm, by simpa using MapAt.nil Value.string, fun x hx => by simp at hx, by simp, fun k hk => by
    simp at hk
    unfold newG; omega, rfl, ⟨hC, by simp [used], by simp, by simp, by simp⟩, fun k hk => hk.2⟩

def ofPost (w : World) (C : Int) (l : List FI) (e : Ending) (w' : World) : Prop :=
  (ofE C l ≠ 0 ∧ e = .returned (.tuple #[.pointer none, .int .i64 (ofE C l)]) ∧ Ext w w') ∨ (ofE C l = 0 ∧ ∃ b, e = .returned (.tuple #[.pointer (some ⟨b, 0, none⟩), .int .i64 0]) ∧ Disk w' (newG w w') b (ofM C l) ∧ Ext w w')
theorem ofPost_no {w w' : World} {C : Int} {l : List FI} {e : Ending} {x : Int} (h : ofE C l = x) (hx : x ≠ 0) (he : e = .returned (.tuple #[.pointer none, .int .i64 x])) (hw : Ext w w') : ofPost w C l e w' :=
  .inl ⟨by rw [h]; exact hx, by rw [h]; exact he, hw⟩

theorem Of_any (w : World) (C : Int) (fv : Value) (l : List FI) (hfv : FilesAt w fv l) (hsz : ∀ f ∈ l, f.1.size ≤ maxLen) (hu : used (l.map mkF) ≤ 67108864) :
    Calls Try.prog 12 #[.int .i64 C, fv] w fun e w' => ofPost w C l e w' := by
  have hmm := @run_makeMap Try.prog
  have HFV := Lib.hid hfv; have HU := Lib.hid hu; have HSZ := Lib.hid hsz
  obtain ⟨fa, fc, rfl⟩ : ∃ fa fc, fv = .slice fa l.length fc := by
    rcases hfv with ⟨⟨a, c, h1⟩, h0⟩ | ⟨g, o, c, h1, _⟩
    · exact ⟨a, c, by rw [h1, h0]; rfl⟩
    · exact ⟨_, _, h1⟩
  clear hfv hu hsz
  by_cases hC1 : C < 0
  · have hE : ofE C l = 11 := by simp [ofE, hC1]
    have HE := Lib.hid hE; clear hE
    go_enter Try.func12, Try.ntmps12
    go_wp2
    go_ret2
    exact ofPost_no HE.out (by decide) rfl (Ext.refl _)
  by_cases hC2 : 67108864 < C
  · have hE : ofE C l = 11 := by simp [ofE, hC2]
    have HE := Lib.hid hE; clear hE
    go_enter Try.func12, Try.ntmps12
    go_wp2
    go_ret2
    exact ofPost_no HE.out (by decide) rfl (Ext.refl _)
  by_cases hN : 1024 < l.length
  · have hE : ofE C l = 12 := by simp [ofE, hC1, hC2, hN]
    have HE := Lib.hid hE; clear hE
    go_enter Try.func12, Try.ntmps12
    go_wp2
    go_ret2
    exact ofPost_no HE.out (by decide) rfl (Ext.refl _)
  have hE : ofE C l = if ofScan [] l ≠ 0 then ofScan [] l else if C < (used (l.map mkF) : Nat) then 23 else 0 := by simp [ofE, hC1, hC2, hN]
  have HE := Lib.hid hE; clear hE
  obtain ⟨c, rfl⟩ : ∃ c : Nat, C = c := ⟨C.toNat, by omega⟩
  have hc : c ≤ 67108864 := by omega
  have hN : l.length ≤ 1024 := by omega
  have hC0 : ¬ ((c : Int) < 0) := by omega
  have hNi : ¬ ((1024 : Int) < l.length) := by omega
  go_enter Try.func12, Try.ntmps12
  go_wp2
  have e1 : Ext w ((w.alloc (.map #[] 0)).alloc (.cells #[.int .i64 0, .int .i64 0, .bool false, .int .i64 c, .map (some w.heap.size)] 51)) := ((Ext.refl w).alloc (Nat.le_refl _) _).alloc (by simp) _
  have hm1 : ((w.alloc (.map #[] 0)).alloc (.cells #[.int .i64 0, .int .i64 0, .bool false, .int .i64 c, .map (some w.heap.size)] 51)).heap[w.heap.size]? = some (.map #[] 0) := get_alloc _ (get_new w _)
  have hb1 : ((w.alloc (.map #[] 0)).alloc (.cells #[.int .i64 0, .int .i64 0, .bool false, .int .i64 c, .map (some w.heap.size)] 51)).heap[w.heap.size + 1]? = some (diskO ⟨0, 0, false, c, []⟩ w.heap.size) := by
    have := get_new (w.alloc (.map #[] 0)) (diskO ⟨0, 0, false, c, []⟩ w.heap.size)
    rw [show (w.alloc (.map #[] 0)).heap.size = w.heap.size + 1 by simp] at this
    exact this
  have hs1 : ((w.alloc (.map #[] 0)).alloc (.cells #[.int .i64 0, .int .i64 0, .bool false, .int .i64 c, .map (some w.heap.size)] 51)).heap.size = w.heap.size + 2 := by simp
  obtain ⟨W, hW⟩ : ∃ W, W = ((w.alloc (.map #[] 0)).alloc (.cells #[.int .i64 0, .int .i64 0, .bool false, .int .i64 c, .map (some w.heap.size)] 51)) := ⟨_, rfl⟩
  rw [← hW]
  rw [← hW] at e1 hm1 hb1 hs1
  have hS := of_start c hc W hs1 hm1 hb1
  have HE1 := Lib.hid e1; have HS := Lib.hid hS
  clear hW hmm e1 hm1 hb1 hs1 hS
  have HNN := Lib.hid hN
  go_loopg [26] l.length (fun g s26 wr => ∃ (i : Nat) (mo' : Obj) (nfs : List FRec), s26 = .int .i64 i ∧ i ≤ l.length ∧ g = l.length - i ∧ Ext w wr ∧ DiskR wr (newG w wr) (w.heap.size + 1) w.heap.size mo' nfs ⟨0, 0, false, c, (l.take i).map mkF⟩ ∧ ofScan [] l = ofScan ((l.take i).map mkF) (l.drop i))
  case atStart => exact ⟨0, _, [], rfl, Nat.zero_le _, rfl, HE1.out, by simpa using HS.out, by simp⟩
  case round =>
    obtain ⟨i, mo', nfs, rfl, hi, hg, hext, hD, hscan⟩ := hrel
    rcases Nat.lt_or_ge i l.length with hlt | hge
    · have hdrop : l.drop i = l[i] :: l.drop (i + 1) := List.drop_eq_getElem_cons hlt
      have htake : l.take (i + 1) = l.take i ++ [l[i]] := by rw [List.take_succ_eq_append_getElem hlt]
      rw [hdrop] at hscan
      have hfsz := HSZ.out l[i] (List.getElem_mem hlt)
      have husum : used ((l.take i).map mkF) + l[i].2.length ≤ 67108864 := by
        have h1 : l = l.take i ++ (l[i] :: l.drop (i + 1)) := by rw [← hdrop, List.take_append_drop]
        have h2 := HU.out
        rw [h1, List.map_append, used_app] at h2
        simp only [List.map_cons, used, List.sum_cons, mkF] at h2 ⊢
        omega
      obtain ⟨g0, o0, rfl, u, k0, k1, hu⟩ : ∃ g o, fa = some ⟨g, o, none⟩ ∧ ∃ u, w.cell? ⟨g, o + i * 2, none⟩ = some (.string l[i].1) ∧ w.cell? ⟨g, o + i * 2 + 1, none⟩ = some u ∧ BytesAt w u l[i].2 := by
        rcases HFV.out with ⟨_, h0⟩ | ⟨g, o, c', h1, _, h2⟩
        · rw [h0] at hlt; simp at hlt
        · cases h1
          obtain ⟨a1, u, a2, a3⟩ := h2 i hlt
          exact ⟨g, o, rfl, u, a1, a2, a3⟩
      have k0 : wr.cell? ⟨g0, o0 + i * 2, none⟩ = some (.string l[i].1) := by rw [hext.cell (World.block_lt_of_cell? w _ k0)]; exact k0
      have k1 : wr.cell? ⟨g0, o0 + i * 2 + 1, none⟩ = some u := by rw [hext.cell (World.block_lt_of_cell? w _ k1)]; exact k1
      have hgl : g0 < wr.heap.size := World.block_lt_of_cell? wr _ k0
      obtain ⟨au, cu, rfl⟩ : ∃ au cu, u = .slice au l[i].2.length cu := by
        rcases hu with ⟨h1, h0⟩ | ⟨a, cap, h1, _⟩
        · exact ⟨none, 0, by rw [h1, h0]; rfl⟩
        · exact ⟨_, _, h1⟩
      have HB := Lib.hid (hu.ext hext)
      have HX := Lib.hid hext; have HD := Lib.hid hD; have HSC := Lib.hid hscan; have HG := Lib.hid hg; have HUS := Lib.hid husum; have HTK := Lib.hid htake
      have HFV2 := Lib.hid HFV.out
      clear hdrop htake hscan husum hu hext hD hg HFV
      generalize hfe : l[i] = f at *
      obtain ⟨fn, fd⟩ := f
      simp only at k0 k1 hfsz HB HUS
      have hf2 : (wr.alloc (.cells #[.string fn, .slice au fd.length cu] 29)).heap[wr.heap.size]? = some (.cells #[.string fn, .slice au fd.length cu] 29 (0, 0)) := get_new _ _
      have HF2 := Lib.hid hf2
      have p0 := cell_of hf2 0
      have hN3 := Name_any fn (wr.alloc (.cells #[.string fn, .slice au fd.length cu] 29)) hfsz
      have HN3 := Lib.hid hN3
      clear hf2 hfe hN3 hfsz
      rcases Bool.eq_false_or_eq_true (okName fn) with hok | hok
      · rw [hok] at HN3
        have HOK := Lib.hid hok
        clear hok
        go_wp2_with (go_at_call 31; refine HN3.out.mono ?_; rintro e w3 ⟨rfl, he3⟩)
        have hX3 : Ext wr w3 := Ext.trans (b := wr.alloc (.cells #[.string fn, .slice au fd.length cu] 29)) ((Ext.refl wr).alloc (Nat.le_refl _) _) he3
        have hD3 := HD.out.ext' hX3
        have hf3 := he3.get HF2.out
        have q0 : w3.cell? ⟨wr.heap.size, 0, none⟩ = some (.string fn) := cell_of hf3 0
        have q1 : w3.cell? ⟨wr.heap.size, 1, none⟩ = some (.slice au fd.length cu) := cell_of hf3 1
        obtain ⟨_, _, _, _, n4⟩ := hD3.cells
        have hlk := fun w' hw => hD3.lookup fn w' hw
        rcases hD3.look fn with ⟨h1, h2⟩ | ⟨x, hx, h1, h3, h2⟩
        · rw [h2] at hlk; simp only [Option.getD_none] at hlk
          have hcl : Calls Try.prog 33 #[.slice au fd.length cu] w3.drew.drew fun e w' => ∃ v', e = .returned v' ∧ w'.ownsRow 0 5 1 v' fd.length (encB fd) ∧ (∀ g, v'.ownBlock = some g → w3.heap.size ≤ g) ∧ Ext w3 w' := by
            refine (Clone_any (w := w3.drew.drew) (HB.out.ext (hX3.drew.drew)) (by have := HUS.out; omega)).mono ?_
            rintro e w' ⟨v', b1, b2, b3, b4⟩
            exact ⟨v', b1, b2, b3, ext_drew (ext_drew b4)⟩
          have hsc : ofScan [] l = ofScan ((l.take (i + 1)).map mkF) (l.drop (i + 1)) := by
            rw [HSC.out, HTK.out, List.map_append]
            have h1' : (find ((l.take i).map mkF) fn).isSome = false := by rw [h1]; rfl
            show (if okName fn = false then (25 : Int) else if (find ((l.take i).map mkF) fn).isSome = true then 15 else _) = _
            rw [if_neg (by rw [HOK.out]; decide), if_neg (by rw [h1']; decide)]
            rfl
          have hfilesm : ((l.take (i + 1)).map mkF) = (l.take i).map mkF ++ [⟨fn, fd, fd.length⟩] := by rw [HTK.out, List.map_append]; rfl
          have HCL := Lib.hid hcl; have HSC2 := Lib.hid hsc; have HFM := Lib.hid hfilesm; have HD3 := Lib.hid hD3; have HF3 := Lib.hid hf3; have HX3 := Lib.hid hX3; have HNO := Lib.hid h1
          have HE3 := Lib.hid he3
          have lx3 := lt_of_get hf3
          have ln3 : w.heap.size + 1 < w3.heap.size := lt_of_get hD3.blk
          clear hcl hsc hfilesm h1 h2 hD3 hf3 hX3 p0 he3
          refine wp_region_sig (tg [0,0,0,1,0,1,1,0]) [0,1,2,3,4,5,6,7] (by kernel_rfl) (by kernel_rfl) ?_
          repeat (first | (refine sig_p rfl rfl (fun K hK => ?_); go_simp; refine hK _ ?_; clear hK K) | (refine sig_q rfl rfl (fun K hK => ?_); go_simp; refine hK _ ?_; clear hK K) | (refine sig_r rfl rfl rfl (fun K hK => ?_); go_simp; refine hK _ _ _ ?_; clear hK K))
          refine sig_nil ?_
          go_wp2
          refine wp_region_sig (tg [0,0,0,2,0,2,0,1,3,0,2,0,0,3,3]) [0,1,2,3,4,5,6,7,9,10,11,8,12,13,14] (by kernel_rfl) (by kernel_rfl) ?_
          repeat (first | (refine sig_p rfl rfl (fun K hK => ?_); go_simp; refine hK _ ?_; clear hK K) | (refine sig_q rfl rfl (fun K hK => ?_); go_simp; refine hK _ ?_; clear hK K) | (refine sig_r rfl rfl rfl (fun K hK => ?_); go_simp; refine hK _ _ _ ?_; clear hK K))
          refine sig_e rfl rfl rfl (fun K hK => ?_)
          go_simp
          refine HCL.out.mono ?_
          rintro e w4 ⟨v4, rfl, ho4, hf4, he4⟩
          have he4 : Ext w3 w4 := he4
          obtain ⟨w5, hrun5, ⟨mo5, nfs5, hD5⟩, hk5⟩ := put_step HD3.out he4 fn HNO.out (okName_size HOK.out) (by
              have := HNN.out; show ((l.take i).map mkF).length < 1024; rw [List.length_map, List.length_take]; omega) fd v4 fd.length ho4 hf4 (Nat.le_refl _) HUS.out
          obtain ⟨a4, c4, hv4, _⟩ := owns_slice ho4
          subst hv4
          obtain ⟨_, _, _, _, n44⟩ := (HD3.out.ext' he4).cells
          have x4 := he4.get HF3.out
          have q40 : w4.cell? ⟨wr.heap.size, 0, none⟩ = some (.string fn) := cell_of x4 0
          have q41 : w4.cell? ⟨wr.heap.size, 1, none⟩ = some (.slice au fd.length cu) := cell_of x4 1
          have lx4 := lt_of_get x4
          have ln4 : w.heap.size + 1 < w4.heap.size := lt_of_get (HD3.out.ext' he4).blk
          have HD5 := Lib.hid hD5; have HK5 := Lib.hid hk5; have HE4 := Lib.hid he4
          have HS4 := Lib.hid he4.size
          clear ho4 hf4 he4 hD5 hk5 x4
          simp only [fileO] at hrun5
          apply hK <;> clear hK K
          · repeat (first | exact keeps_none | refine keeps_waits rfl ?_ | refine keeps_put (by go_simp) ?_)
          repeat (first | (refine sig_p rfl rfl (fun K hK => ?_); go_simp; refine hK _ ?_; clear hK K))
          refine sig_e rfl rfl rfl (fun K hK => ?_)
          go_simp
          apply hK <;> clear hK K
          · repeat (first | exact keeps_none | refine keeps_waits rfl ?_ | refine keeps_put (by go_simp) ?_)
          refine sig_e rfl rfl rfl (fun K hK => ?_)
          go_simp
          apply hK <;> clear hK K
          · repeat (first | exact keeps_none | refine keeps_waits rfl ?_ | refine keeps_put (by go_simp) ?_)
          refine sig_nil ?_
          clear hrun5 hlk q40 q41 n44 lx4 ln4 q0 q1 n4
          go_wp2
          go_roundg (l.length - (i + 1))
          case measure => have := HG.out; omega
          case rel =>
            have hX5 : Ext w w5 := ext_keeps (HX.out.trans HX3.out) HK5.out (fun k hk => by omega)
            exact ⟨i + 1, mo5, nfs5, by go_num, by omega, rfl, hX5, by
              rw [HFM.out]
              exact HD5.out.move (fun _ _ _ => rfl) (fun k hk => by
                rcases hk with hk | hk
                · exact ⟨hk.1, Nat.lt_of_lt_of_le hk.2 (Nat.le_trans HX3.out.size HK5.out.size)⟩
                · exact ⟨Nat.le_trans (HX.out.trans HX3.out).size hk.1, hk.2⟩) (fun k hk => hk.2), HSC2.out⟩
        · rw [h2] at hlk; simp only [Option.getD_some] at hlk
          have hsc : ofScan [] l = 15 := by
            rw [HSC.out]
            have h1' : (find ((l.take i).map mkF) fn).isSome = true := by rw [h1]; rfl
            show (if okName fn = false then (25 : Int) else if (find ((l.take i).map mkF) fn).isSome = true then 15 else _) = _
            rw [if_neg (by rw [HOK.out]; decide), if_pos h1']
          have hE : ofE c l = 15 := by rw [HE.out, hsc]; rfl
          have HE15 := Lib.hid hE
          have HX3 := Lib.hid hX3
          clear hsc hE h1 h2 h3 hD3 hf3 hX3 p0 he3 hx
          refine wp_region_sig (tg [0,0,0,1,0,1,1,0]) [0,1,2,3,4,5,6,7] (by kernel_rfl) (by kernel_rfl) ?_
          repeat (first | (refine sig_p rfl rfl (fun K hK => ?_); go_simp; refine hK _ ?_; clear hK K) | (refine sig_q rfl rfl (fun K hK => ?_); go_simp; refine hK _ ?_; clear hK K) | (refine sig_r rfl rfl rfl (fun K hK => ?_); go_simp; refine hK _ _ _ ?_; clear hK K))
          refine sig_nil ?_
          go_wp2
          go_ret2
          exact ofPost_no HE15.out (by decide) rfl ((HX.out.trans HX3.out).drew)
      · rw [hok] at HN3
        have hsc : ofScan [] l = 25 := by rw [HSC.out]; simp [ofScan, hok]
        have hE : ofE c l = 25 := by rw [HE.out, hsc]; rfl
        have HE25 := Lib.hid hE
        clear hok hsc hE
        go_wp2_with (go_at_call 31; refine HN3.out.mono ?_; rintro e w3 ⟨rfl, he3⟩)
        go_ret2
        exact ofPost_no HE25.out (by decide) rfl (Ext.trans (b := wr.alloc (.cells #[.string fn, .slice au fd.length cu] 29)) (HX.out.alloc HX.out.size _) he3)
    · have hiN : i = l.length := by omega
      subst hiN
      rw [List.take_length] at hD hscan
      rw [List.drop_length] at hscan
      have hsc0 : ofScan [] l = 0 := by rw [hscan]; rfl
      have hE : ofE c l = if (c : Int) < (used (l.map mkF) : Nat) then 23 else 0 := by rw [HE.out, hsc0]; rfl
      have hD : DiskR wr (newG w wr) (w.heap.size + 1) w.heap.size mo' nfs (ofM c l) := hD
      have hue : usedE (ofM c l) = (used (l.map mkF) : Nat) := rfl
      have hU := used_any hD
      rw [hue] at hU
      have HUU := Lib.hid hU; have HD := Lib.hid hD; have HX := Lib.hid hext; have HEE := Lib.hid hE
      clear hD hU hue hE hsc0 hscan hext hg hge hi
      generalize hun : used (l.map mkF) = n at *
      by_cases hcn : (c : Int) < (n : Int)
      · have hE : ofE c l = 23 := by rw [HEE.out, if_pos hcn]
        have HE23 := Lib.hid hE
        clear hE hun
        go_wp2_with (go_at_call 30; refine HUU.out.mono ?_; rintro e w3 ⟨rfl, he3⟩)
        go_ret2
        exact ofPost_no HE23.out (by decide) rfl (HX.out.trans he3)
      · have hE : ofE c l = 0 := by rw [HEE.out, if_neg hcn]
        have HE0 := Lib.hid hE
        clear hE hun
        go_wp2_with (go_at_call 30; refine HUU.out.mono ?_; rintro e w3 ⟨rfl, he3⟩)
        go_ret2
        exact .inr ⟨HE0.out, _, rfl, ⟨_, _, _, (HD.out.ext' he3).move (fun _ _ _ => rfl) (fun k hk => ⟨hk.1, Nat.lt_of_lt_of_le hk.2 he3.size⟩) (fun k hk => hk.2)⟩, HX.out.trans he3⟩

theorem New_any (w : World) (C : Int) : Calls Try.prog 15 #[.int .i64 C] w fun e w' => ofPost w C [] e w' := by
  have h := Of_any w C (.slice none 0 0) [] (.inl ⟨⟨none, 0, rfl⟩, rfl⟩) (by simp) (by simp [used])
  have H := Lib.hid h
  clear h
  go_enter Try.func15, Try.ntmps15
  go_wp2_with (go_at_call 12; refine H.out.mono ?_; rintro e w' hp; have HP := Lib.hid hp; rcases hp with ⟨_, rfl, _⟩ | ⟨_, b, rfl, _⟩)
  · skip
    go_ret2
    exact HP.out
  · go_ret2
    exact HP.out
end Go.Proofs.Ytjbalcfdenaneaa
