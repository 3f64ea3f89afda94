/- Walks: what asks a disk. -/
import Derived.Test.YtjbalcfdenaneaaDkRep
import Derived.Test.YtjbalcfdenaneaaMuRegion
import Derived.WalkKit
import Derived.WalkLawsBesides
import Derived.WalkSpells
import Derived.Outline
import Derived.Lib.Hide
import Derived.Deep.LoopGhost
import Derived.IntWalk
namespace Go.Proofs.Ytjbalcfdenaneaa
open Go Go.RowKit Go.ChangeMaps Mu
set_option maxRecDepth 100000
attribute [local go_sem] drew_heap

def thereE (M : DM) (n : ByteArray) : Int := if (find M.files n).isNone then 14 else 0
/-- what a walk wants of the disk's block -/
theorem DiskR.cells {w : World} {F : Nat → Prop} {b m : Nat} {mo : Obj} {fs : List FRec} {M : DM} (h : DiskR w F b m mo fs M) :
    (w.cell? ⟨b, 0, none⟩ = some (.int .i64 M.armed)) ∧ (w.cell? ⟨b, 1, none⟩ = some (.int .i64 M.steps)) ∧ (w.cell? ⟨b, 2, none⟩ = some (.bool M.down)) ∧ (w.cell? ⟨b, 3, none⟩ = some (.int .i64 M.cap)) ∧ (w.cell? ⟨b, 4, none⟩ = some (.map (some m))) :=
  have c := cell_of h.blk
  ⟨c 0, c 1, c 2, c 3, c 4⟩

theorem there_any {w : World} {F : Nat → Prop} {b m : Nat} {mo : Obj} {fs : List FRec} {M : DM} (h : DiskR w F b m mo fs M) (n : ByteArray) :
    Calls Try.prog 44 #[.pointer (some ⟨b, 0, none⟩), .string n] w fun e w' => e = .returned (.int .i64 (thereE M n)) ∧ w = w' := by
  obtain ⟨_, _, _, _, c4⟩ := h.cells
  have hl := h.lookup n w rfl
  rcases h.look n with ⟨h1, h2⟩ | ⟨x, hx, h1, h2, h3⟩
  · rw [h2] at hl
    simp only [thereE, h1]
    clear h h1 h2
    go_enter Try.func44, Try.ntmps44
    go_wp2
    go_ret
    exact ⟨rfl, rfl⟩
  · rw [h3] at hl
    simp only [thereE, h1]
    clear h h1 h2 h3 hx
    go_enter Try.func44, Try.ntmps44
    go_wp2
    go_ret
    exact ⟨rfl, rfl⟩

def usedE (M : DM) : Int := if M.down then 0 else (used M.files : Nat)
/-- files in memory, when the iterator stands elsewhere -/
theorem used_cons (x : FRec) (l : List FRec) : used ((x :: l).map FRec.f) = x.f.data.length + used (l.map FRec.f) := by simp [used]
theorem used_erase : ∀ (l : List FRec) (j : Nat) (x : FRec), l[j]? = some x → used (l.map FRec.f) = x.f.data.length + used ((l.eraseIdx j).map FRec.f)
  | [], _, _, h => by simp at h
  | y :: l, 0, x, h => by simp at h; subst h; simp [used]
  | y :: l, j + 1, x, h => by
    simp at h
    rw [List.eraseIdx_cons_succ, used_cons, used_cons, used_erase l j x h]; omega
theorem map_eraseIdx' {α β : Type} (f : α → β) (l : List α) (j : Nat) : (l.map f).eraseIdx j = (l.eraseIdx j).map f := (map_eraseIdx f l j).symm
theorem owns_slice {w : World} {B e n : Nat} {v : Value} {xs : List Value} (h : w.ownsRow B e 1 v n xs) : ∃ a c, v = .slice a n c ∧ n ≤ maxLen := by
  rcases h.2 with ⟨rfl, h0⟩ | ⟨g, cap, cur, rfl, _, _, h1, h2, _⟩
  · exact ⟨none, 0, by rw [h0], by rw [h0]; exact Nat.zero_le _⟩
  · exact ⟨_, _, rfl, by omega⟩

theorem used_any {w : World} {F : Nat → Prop} {b m : Nat} {mo : Obj} {fs : List FRec} {M : DM} (h : DiskR w F b m mo fs M) :
    Calls Try.prog 30 #[.pointer (some ⟨b, 0, none⟩)] w fun e w' => e = .returned (.int .i64 (usedE M)) ∧ Ext w w' := by
  obtain ⟨_, _, c2, _, c4⟩ := h.cells
  obtain ⟨oi, hr, hi⟩ := run_range_at (P := Try.prog) (t := 49) Try.underlying49 h.map h.at_
  have hu := h.ok.used; have hc := h.ok.cap
  have hblk := lt_of_get h.blk; have hmap := lt_of_get h.map
  have H := Lib.hid h; have HI := Lib.hid hi
  have hfs := Lib.hid h.files
  clear h hi
  go_enter Try.func30, Try.ntmps30
  go_wp2
  go_loopg [3] fs.length (fun g s3 wr => ∃ (lx : List FRec) (oi : Obj), g = lx.length ∧ IterAt Value.string mo oi m (lx.map FRec.ent) ∧ (∀ x ∈ lx, x ∈ fs) ∧ wr.heap[w.heap.size]? = some oi ∧ Ext w wr ∧ ∃ n : Nat, s3 = .int .i64 n ∧ n + used (lx.map FRec.f) = used M.files)
  case atStart => exact ⟨fs, oi, rfl, HI.out, fun _ h => h, get_new w oi, (Ext.refl w).alloc (Nat.le_refl _) oi, 0, rfl, by rw [hfs.out]; simp⟩
  case round =>
    obtain ⟨lx, oj, rfl, hit, hsub, hgr, hext, n, rfl, hn⟩ := hrel
    have hm := hext.get H.out.map
    rcases run_next_iter (P := Try.prog) (ty := 0) hgr hm hit with ⟨hnil, hrun⟩ | ⟨j, p, oi', w1, hj, hw1, hrun, hit', hent⟩
    · obtain ⟨_, _, c2', _, _⟩ := (H.out.ext' hext).cells
      have he : n = used M.files := by simp at hnil; rw [hnil] at hn; simpa [used] using hn
      have HE := Lib.hid he
      clear hnil hn hm hit hgr hr c2 c4 he
      rcases Bool.eq_false_or_eq_true M.down with hd | hd
      · rw [hd] at c2'
        have HD := Lib.hid hd; clear hd
        go_wp2
        go_ret
        exact ⟨by unfold usedE; rw [if_pos HD.out]; rfl, hext⟩
      · rw [hd] at c2'
        have HD := Lib.hid hd; clear hd
        go_wp2
        go_ret
        exact ⟨by unfold usedE; rw [HE.out, HD.out]; rfl, hext⟩
    · rw [List.getElem?_map] at hj
      obtain ⟨x, hx, rfl⟩ := Option.map_eq_some_iff.1 hj
      have hxf := hsub x (List.mem_of_getElem? hx)
      have hsum := used_erase lx j x hx
      rw [map_eraseIdx'] at hit'
      have hlen := List.length_eraseIdx_of_lt (List.getElem?_eq_some_iff.1 hx).1
      obtain ⟨w2, hw2⟩ : ∃ w2, w2 = setBlock w1 w.heap.size oi' := ⟨_, rfl⟩
      rw [← hw2] at hrun
      have hgr1 : w1.heap[w.heap.size]? = some oj := by rcases hw1 with rfl | rfl <;> exact hgr
      have hk1 : Keeps (fun k => k = w.heap.size) wr w2 := by
        rw [hw2]; rcases hw1 with rfl | rfl
        · exact (Keeps.refl (fun k => k = w.heap.size) _).setBlock (.inl rfl) _
        · exact ((Keeps.refl (fun k => k = w.heap.size) _).drew).setBlock (.inl rfl) _
      have hext2 : Ext w w2 := ext_keeps hext hk1 (fun k hk => by omega)
      have hg2 : w2.heap[w.heap.size]? = some oi' := by rw [hw2]; exact get_setBlock _ hgr1
      have hent2 := hent w2 hg2 (hext2.get H.out.map)
      have hfile := (H.out.ext' hext2).file x hxf
      obtain ⟨a, c, hv, hmax⟩ := owns_slice hfile.2
      have hcell := cell_of hfile.1 0
      rw [hv] at hcell
      have hcell : w2.cell? ⟨x.blk, 0, none⟩ = some (.slice a x.f.data.length c) := hcell
      have hb1 : n + x.f.data.length ≤ 67108864 := by omega
      have HX := Lib.hid (And.intro hw2 (And.intro hn (And.intro hsum hlen)))
      clear hw2 hn hsum hlen hj hw1 hm hit hgr hr c2 c4 hgr1 hk1 hfile hv hmax hent hu hc
      simp only [FRec.ent] at hrun hent2
      go_wp2
      go_roundg (lx.eraseIdx j).length
      case measure => have := HX.out.2.2.2; have := (List.getElem?_eq_some_iff.1 hx).1; omega
      case rel => exact ⟨lx.eraseIdx j, oi', rfl, hit', fun y hy => hsub y ((List.eraseIdx_sublist _ _).subset hy), hg2, hext2, n + x.f.data.length, by go_num, by have := HX.out.2.1; have := HX.out.2.2.1; omega⟩

theorem DiskR.drew {w : World} {F : Nat → Prop} {b m : Nat} {mo : Obj} {fs : List FRec} {M : DM} (h : DiskR w F b m mo fs M) : DiskR w.drew F b m mo fs M := h.move (fun _ _ _ => rfl) (fun _ h => h) h.lim
theorem ext_drew {w w' : World} (h : Ext w.drew w') : Ext w w' := ⟨h.os, h.tape, h.output, h.size, h.block⟩

def roomE (M : DM) (n : ByteArray) (k : Nat) : Int := if (find M.files n).isNone then 14 else if usedE M + k > M.cap then 23 else 0
theorem room_any {w : World} {F : Nat → Prop} {b m : Nat} {mo : Obj} {fs : List FRec} {M : DM} (h : DiskR w F b m mo fs M) (n : ByteArray) (k : Nat) (hk : k ≤ 1000000000) :
    Calls Try.prog 41 #[.pointer (some ⟨b, 0, none⟩), .string n, .int .i64 k] w fun e w' => e = .returned (.int .i64 (roomE M n k)) ∧ Ext w w' := by
  have H := Lib.hid h
  obtain ⟨_, _, _, c3, _⟩ := h.cells
  have hu := h.ok.used; have hc := h.ok.cap
  have hue : 0 ≤ usedE M ∧ usedE M ≤ 67108864 := by unfold usedE; split <;> omega
  obtain ⟨hu0, hu1⟩ := hue
  clear h hu
  by_cases hn : (find M.files n).isNone = true
  · have h14 : roomE M n k = 14 := by simp [roomE, hn]
    have h14' : thereE M n = 14 := by simp [thereE, hn]
    rw [h14]; clear h14 hn
    go_enter Try.func41, Try.ntmps41
    go_wp2_with (go_at_call 44; refine (there_any H.out n).mono ?_; rw [h14']; rintro e w' ⟨rfl, rfl⟩)
    go_ret
    exact ⟨rfl, Ext.refl _⟩
  · have h0 : thereE M n = 0 := by simp [thereE, hn]
    by_cases hcap : M.cap < usedE M + k
    all_goals
      have hr : roomE M n k = if M.cap < usedE M + k then 23 else 0 := by simp [roomE, hn]
      rw [hr]; simp only [hcap, if_true, if_false]; clear hr hn
      go_enter Try.func41, Try.ntmps41
      go_wp2_with (go_at_call 44; refine (there_any H.out n).mono ?_; rw [h0]; rintro e w' ⟨rfl, rfl⟩)
      have hwr := IntWalk.i64_in (usedE M + (k : Int)) (by omega)
      refine wp_region_sig (tg [0,3,0,0,0,0,0,2,0]) [0,2,4,5,6,7,1,3,8] (by kernel_rfl) (by kernel_rfl) ?_
      repeat (first | (refine sig_p rfl rfl (fun K hK => ?_); go_simp; refine hK _ ?_; clear hK K) | (refine sig_q rfl rfl (fun K hK => ?_); go_simp; refine hK _ ?_; clear hK K) | (refine sig_r rfl rfl rfl (fun K hK => ?_); go_simp; refine hK _ _ _ ?_; clear hK K))
      refine sig_e rfl rfl rfl (fun K hK => ?_)
      go_simp
      refine (used_any H.out.drew).mono ?_
      rintro e w1 ⟨rfl, hext⟩
      have hext := ext_drew hext
      obtain ⟨_, _, _, c3', _⟩ := (H.out.ext' hext).cells
      apply hK <;> clear hK K
      · repeat (first | exact keeps_none | refine keeps_waits rfl ?_ | refine keeps_put (by go_simp) ?_)
      repeat (first | (refine sig_p rfl rfl (fun K hK => ?_); go_simp; refine hK _ ?_; clear hK K))
      refine sig_nil ?_
      go_wp2
      go_ret
      exact ⟨rfl, hext⟩
end Go.Proofs.Ytjbalcfdenaneaa
