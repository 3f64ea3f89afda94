/- awake. -/
import Derived.Test.YtjbalcfdenaneaaLwA
import Derived.Test.YtjbalcfdenaneaaDkF
import Derived.Lib.SmallJoins
import Derived.Lib.SlBytesConst
namespace Go.Proofs.Ytjbalcfdenaneaa
open Go Go.RowKit Go.ChangeMaps Mu
set_option maxRecDepth 100000
set_option maxHeartbeats 4000000
attribute [local go_sem] drew_heap get_alloc

def sA : ByteArray := ⟨#[97]⟩
def sAA : ByteArray := ⟨#[65]⟩
def aw0 : DM := ofM 9 []
def aw1 : DM := ⟨0, 1, false, 9, [⟨sA, [], 0⟩]⟩
def aw2 : DM := ⟨0, 2, false, 9, [⟨sA, [], 0⟩]⟩
def aw3 : DM := ⟨0, 3, false, 9, [⟨sA, [97, 98, 99], 0⟩]⟩
def aw4 : DM := ⟨0, 4, false, 9, [⟨sA, [97, 98, 99], 3⟩]⟩
def aw5 : DM := ⟨0, 5, false, 9, [⟨sA, [97, 98, 99, 100, 101], 3⟩]⟩
def aw6 : DM := ⟨0, 6, false, 9, [⟨sA, [97, 98, 99, 100, 101], 3⟩]⟩
def aw7 : DM := ⟨0, 6, false, 9, [⟨sA, [97, 98, 99, 100], 4⟩]⟩

theorem aw_1 : aw0.cmd (aw0.go.create sA) (createE aw0 sA) = aw1 ∧ cmdE aw0 (createE aw0 sA) = 0 := ⟨by kernel_rfl, by kernel_rfl⟩
theorem aw_2 : aw1.cmd (aw1.go.create sAA) (createE aw1 sAA) = aw2 ∧ cmdE aw1 (createE aw1 sAA) = 25 := ⟨by kernel_rfl, by kernel_rfl⟩
theorem aw_3 : aw2.app sA [97, 98, 99] = aw3 ∧ cmdE aw2 (roomE aw2 sA 3) = 0 := ⟨by kernel_rfl, by kernel_rfl⟩
theorem aw_4 : aw3.cmd (aw3.go.sync sA) (thereE aw3 sA) = aw4 ∧ cmdE aw3 (thereE aw3 sA) = 0 := ⟨by kernel_rfl, by kernel_rfl⟩
theorem aw_5 : aw4.app sA [100, 101] = aw5 ∧ cmdE aw4 (roomE aw4 sA 2) = 0 := ⟨by kernel_rfl, by kernel_rfl⟩
theorem aw_6 : aw5.app sA [0, 0, 0, 0, 0] = aw6 ∧ cmdE aw5 (roomE aw5 sA 5) = 23 := ⟨by kernel_rfl, by kernel_rfl⟩
theorem rise_one (M : DM) (f : DF) (h : M.files = [f]) : M.rise = [f.name.data.toList] := by simp [DM.rise, Ytjbalcfdenaneaa.rise, h]
theorem aw_7 : aw6.crash [(1, 0, 0)] = aw7 := by
  have h := rise_one aw6 _ rfl
  unfold DM.crash
  rw [h]
  show ({ (aw6.crashN [(1, 0, 0)] 1) with armed := 0, down := false } : DM) = _
  simp only [DM.crashN]
  rw [h]
  kernel_rfl
theorem aw_8 : (aw6.arm 1).cmd ((aw6.arm 1).go.sync sA) (thereE (aw6.arm 1) sA) = ⟨0, 7, true, 9, [⟨sA, [97, 98, 99, 100, 101], 3⟩]⟩ ∧ cmdE (aw6.arm 1) (thereE (aw6.arm 1) sA) = 24 := ⟨by kernel_rfl, by kernel_rfl⟩
theorem copy_one {M M' : DM} {f : DF} (h : CopyOf M M') (hf : M.files = [f]) : M' = M := by
  obtain ⟨a, s, d, c, p⟩ := h
  rw [hf] at p
  have p := List.perm_singleton.1 p
  cases M; cases M'; simp_all
theorem aw_9 : ofE 9 [] = 0 ∧ ofE (-1) [] = 11 ∧ readE aw7 sA = 0 ∧ readD aw7 sA = [97, 98, 99, 100] ∧ usedE aw7 = 4 ∧ okName ⟨#[120, 45, 49]⟩ = true := ⟨by decide, by decide, by kernel_rfl, by kernel_rfl, by kernel_rfl, by decide⟩
theorem aw_10 : (listE aw7).length = 1 := by
  have : listE aw7 = aw7.rise := rfl
  rw [this, rise_one aw7 _ rfl]; rfl

/-- a disk made within the call -/
def Own (w wr : World) (b : Nat) (M : DM) : Prop := Disk wr (newG w wr) b M ∧ Ext w wr
theorem Own.ext {w wr w' : World} {b : Nat} {M : DM} (h : Own w wr b M) (he : Ext wr w') : Own w w' b M :=
  ⟨(h.1.ext he).mono (fun _ hk => ⟨hk.1, Nat.lt_of_lt_of_le hk.2 he.size⟩) (fun _ hk => hk.2), h.2.trans he⟩
theorem Own.step {w wr w' : World} {b : Nat} {M M' : DM} (h : Own w wr b M) (hD : Disk w' (grow (newG w wr) wr w') b M') (hK : Keeps (newG w wr) wr w') : Own w w' b M' := by
  refine ⟨hD.mono (fun k hk => ?_) (fun k hk => hk.2), ext_keeps h.2 hK (fun k hk => hk.1)⟩
  rcases hk with hk | hk
  · exact ⟨hk.1, Nat.lt_of_lt_of_le hk.2 hK.size⟩
  · exact ⟨Nat.le_trans h.2.size hk.1, hk.2⟩

theorem cell_of' {w : World} {g : Nat} {C : Array Value} {t : TypeId} {fr : Nat × Nat} (h : w.heap[g]? = some (.cells C t fr)) (i : Nat) : w.cell? ⟨g, i, none⟩ = C[i]? := by
  simp [World.cell?, h]
theorem bytes_lit {w : World} {g : Nat} {l : List UInt8} {t : TypeId} {fr : Nat × Nat} {C : Array Value} (hg : w.heap[g]? = some (.cells C t fr)) (hC : C = (encB l).toArray) (hl : l.length ≤ maxLen) : BytesAt w (.slice (some ⟨g, 0, none⟩) l.length l.length) l := by
  subst hC
  refine .inr ⟨⟨g, 0, none⟩, l.length, rfl, Nat.le_refl _, hl, fun i hi => ?_⟩
  have hadd : (⟨g, 0, none⟩ : Addr).add i = ⟨g, i, none⟩ := by unfold Addr.add; split <;> simp_all
  rw [hadd, cell_of' hg]
  simp [encB, hi]
theorem parts_of {w : World} {g : Nat} {vs : List Value} {ls : List (List UInt8)} {t : TypeId} {fr : Nat × Nat} (hg : w.heap[g]? = some (.cells vs.toArray t fr)) (hl : vs.length = ls.length) (hb : ∀ (i : Nat) v l, vs[i]? = some v → ls[i]? = some l → BytesAt w v l) : PartsS w (.slice (some ⟨g, 0, none⟩) ls.length ls.length) ls := by
  refine ⟨g, 0, ls.length, vs, rfl, Nat.le_refl _, hl, fun i u hu => ?_, hb⟩
  have hadd : (⟨g, 0, none⟩ : Addr).add i = ⟨g, i, none⟩ := by unfold Addr.add; split <;> simp_all
  rw [hadd, cell_of' hg]
  simpa using hu

theorem parts2 {w : World} {C1 C2 : Array Value} {f1 f2 : Nat × Nat} {l1 l2 : List UInt8} (h1 : C1 = (encB l1).toArray) (h2 : C2 = (encB l2).toArray) (n1 : l1.length ≤ maxLen) (n2 : l2.length ≤ maxLen) :
    PartsS (((w.alloc (.cells C1 5 f1)).alloc (.cells C2 5 f2)).alloc (.cells #[.slice (some ⟨w.heap.size, 0, none⟩) l1.length l1.length, .slice (some ⟨w.heap.size + 1, 0, none⟩) l2.length l2.length] 27)) (.slice (some ⟨w.heap.size + 1 + 1, 0, none⟩) 2 2) [l1, l2] := by
  have a1 : (((w.alloc (.cells C1 5 f1)).alloc (.cells C2 5 f2)).alloc (.cells #[.slice (some ⟨w.heap.size, 0, none⟩) l1.length l1.length, .slice (some ⟨w.heap.size + 1, 0, none⟩) l2.length l2.length] 27)).heap[w.heap.size]? = some (.cells C1 5 f1) := get_alloc _ (get_alloc _ (get_new w _))
  have a2 : (((w.alloc (.cells C1 5 f1)).alloc (.cells C2 5 f2)).alloc (.cells #[.slice (some ⟨w.heap.size, 0, none⟩) l1.length l1.length, .slice (some ⟨w.heap.size + 1, 0, none⟩) l2.length l2.length] 27)).heap[w.heap.size + 1]? = some (.cells C2 5 f2) := by
    have := get_new (w.alloc (.cells C1 5 f1)) (.cells C2 5 f2)
    rw [show (w.alloc (.cells C1 5 f1)).heap.size = w.heap.size + 1 by simp] at this
    exact get_alloc _ this
  have a3 : (((w.alloc (.cells C1 5 f1)).alloc (.cells C2 5 f2)).alloc (.cells #[.slice (some ⟨w.heap.size, 0, none⟩) l1.length l1.length, .slice (some ⟨w.heap.size + 1, 0, none⟩) l2.length l2.length] 27)).heap[w.heap.size + 1 + 1]? = some (.cells #[.slice (some ⟨w.heap.size, 0, none⟩) l1.length l1.length, .slice (some ⟨w.heap.size + 1, 0, none⟩) l2.length l2.length] 27 (0, 0)) := by
    have := get_new ((w.alloc (.cells C1 5 f1)).alloc (.cells C2 5 f2)) (.cells #[.slice (some ⟨w.heap.size, 0, none⟩) l1.length l1.length, .slice (some ⟨w.heap.size + 1, 0, none⟩) l2.length l2.length] 27)
    rw [show ((w.alloc (.cells C1 5 f1)).alloc (.cells C2 5 f2)).heap.size = w.heap.size + 1 + 1 by simp] at this
    exact this
  exact parts_of (ls := [l1, l2]) (vs := [.slice (some ⟨w.heap.size, 0, none⟩) l1.length l1.length, .slice (some ⟨w.heap.size + 1, 0, none⟩) l2.length l2.length]) a3 rfl (fun i v l hv hl => by
    rcases i with _ | _ | i
    · simp at hv hl; subst hv hl; exact bytes_lit a1 h1 n1
    · simp at hv hl; subst hv hl; exact bytes_lit a2 h2 n2
    · simp at hv)
theorem parts1 {w : World} {C1 : Array Value} {f1 : Nat × Nat} {l1 : List UInt8} (h1 : C1 = (encB l1).toArray) (n1 : l1.length ≤ maxLen) :
    PartsS ((w.alloc (.cells C1 5 f1)).alloc (.cells #[.slice (some ⟨w.heap.size, 0, none⟩) l1.length l1.length] 27)) (.slice (some ⟨w.heap.size + 1, 0, none⟩) 1 1) [l1] := by
  have a1 : ((w.alloc (.cells C1 5 f1)).alloc (.cells #[.slice (some ⟨w.heap.size, 0, none⟩) l1.length l1.length] 27)).heap[w.heap.size]? = some (.cells C1 5 f1) := get_alloc _ (get_new w _)
  have a3 : ((w.alloc (.cells C1 5 f1)).alloc (.cells #[.slice (some ⟨w.heap.size, 0, none⟩) l1.length l1.length] 27)).heap[w.heap.size + 1]? = some (.cells #[.slice (some ⟨w.heap.size, 0, none⟩) l1.length l1.length] 27 (0, 0)) := by
    have := get_new (w.alloc (.cells C1 5 f1)) (.cells #[.slice (some ⟨w.heap.size, 0, none⟩) l1.length l1.length] 27)
    rw [show (w.alloc (.cells C1 5 f1)).heap.size = w.heap.size + 1 by simp] at this
    exact this
  exact parts_of (ls := [l1]) (vs := [.slice (some ⟨w.heap.size, 0, none⟩) l1.length l1.length]) a3 rfl (fun i v l hv hl => by
    rcases i with _ | i
    · simp at hv hl; subst hv hl; exact bytes_lit a1 h1 n1
    · simp at hv)

theorem make5 (w : World) : (Instr.makeSlice 27 (.int .i64 5) (.int .i64 5)).run Try.prog w = .ok (.slice (some ⟨w.heap.size, 0, none⟩) 5 5) (w.alloc (.cells #[.int .u8 0, .int .u8 0, .int .u8 0, .int .u8 0, .int .u8 0] 5)) := by
  obtain ⟨i, hi, hz, hi1, hi2⟩ := info_parts info_u8
  have h := run_makeSlice (P := Try.prog) w 27 5 i (.int .u8 0) Try.underlying27 hi hz .i64 .i64 5 5 (by decide) (by decide) (by rw [hi1]; decide) (by rw [hi2]; decide) (by decide)
  rw [hi1] at h
  have e : madeCells (Value.int IntKind.u8 0).cells (Int.toNat 5 * 1) = #[.int .u8 0, .int .u8 0, .int .u8 0, .int .u8 0, .int .u8 0] := by kernel_rfl
  rw [e] at h
  exact h

theorem awake_any (w : World) : Calls Try.prog 8 #[] w fun e w' => e = .returned (.bool true) ∧ Ext w w' := by
  go_enter Try.func8, Try.ntmps8
  go_wp2_with fail
  refine (New_any w 9).mono ?_
  rintro e w1 (⟨hne, _⟩ | ⟨_, b, rfl, hD1, he1⟩)
  · exact absurd aw_9.1 hne
  have H1 : Hid (Own w w1 b aw0) := Lib.hid ⟨hD1, he1⟩
  clear hD1 he1
  go_wp2_with (go_at_call 15; fail)
  refine (New_any w1 (-1)).mono ?_
  rintro e w2 (⟨_, rfl, he2⟩ | ⟨h0, _⟩)
  case inr => rw [aw_9.2.1] at h0; exact absurd h0 (by decide)
  rw [aw_9.2.1]
  have H2 := Lib.hid (H1.out.ext he2)
  clear he2
  go_wp2_with (go_at_call 17; fail)
  have hS : ∀ f ∈ [sA, sAA], f.size ≤ maxLen := by decide
  refine (Create_any H2.out.1 (by decide) (by decide) sA (hS _ (by simp))).mono ?_
  rw [aw_1.1, aw_1.2]
  rintro e w3 ⟨rfl, hD, hK⟩
  have H3 := Lib.hid (H2.out.step hD hK)
  clear hD hK
  go_wp2_with (go_at_call 17; fail)
  refine (Create_any H3.out.1 (by decide) (by decide) sAA (hS _ (by simp))).mono ?_
  rw [aw_2.1, aw_2.2]
  rintro e w4 ⟨rfl, hD, hK⟩
  have H4 := Lib.hid (H3.out.step hD hK)
  clear hD hK
  have hcv := fun (w : World) C n c => Lib.run_convert_bytes_const (P := Try.prog) w 27 5 C n c Try.underlying27 Try.underlying5
  have hcv2 := fun (w : World) (C D : Array Value) fr n c => Go.Joins.run_convert_bytes_const_at (P := Try.prog) (w.alloc (.cells D 5 fr)) 27 5 C n c (w.heap.size + 1) (by simp) Try.underlying27 Try.underlying5
  go_wp2_with (go_at_call 18; fail)
  have hp4 := parts2 (w := w4) (C1 := #[.int .u8 97, .int .u8 98]) (C2 := #[.int .u8 99]) (f1 := (2, 3)) (f2 := (1, 2)) (l1 := [97, 98]) (l2 := [99]) (by kernel_rfl) (by kernel_rfl) (by decide) (by decide)
  have e4 : Ext w4 (((w4.alloc (.cells #[.int .u8 97, .int .u8 98] 5 (2, 3))).alloc (.cells #[.int .u8 99] 5 (1, 2))).alloc (.cells #[.slice (some ⟨w4.heap.size, 0, none⟩) 2 2, .slice (some ⟨w4.heap.size + 1, 0, none⟩) 1 1] 27)) := (((Ext.refl w4).alloc (Nat.le_refl _) _).alloc (by simp) _).alloc (by simp; omega) _
  have H4b := Lib.hid (H4.out.ext e4)
  refine (Append_any H4b.out.1 (by decide) (by decide) sA _ [[97, 98], [99]] hp4 (by decide) (by decide) (by decide)).mono ?_
  show ∀ (e : Ending) (w' : World), _ = Ending.returned (.int .i64 (cmdE aw2 (roomE aw2 sA 3))) ∧ Disk w' _ b (aw2.app sA [97, 98, 99]) ∧ _ → _
  rw [aw_3.1, aw_3.2]
  rintro e w5 ⟨rfl, hD, hK⟩
  have H5 := Lib.hid (H4b.out.step hD hK)
  clear hD hK hp4 e4
  go_wp2_with (go_at_call 19; fail)
  refine (Sync_any H5.out.1 (by decide) (by decide) sA).mono ?_
  rw [aw_4.1, aw_4.2]
  rintro e w6 ⟨rfl, hD, hK⟩
  have H6 := Lib.hid (H5.out.step hD hK)
  clear hD hK
  go_wp2_with (go_at_call 18; fail)
  have hp6 := parts1 (w := w6) (C1 := #[.int .u8 100, .int .u8 101]) (f1 := (2, 3)) (l1 := [100, 101]) (by kernel_rfl) (by decide)
  have e6 : Ext w6 ((w6.alloc (.cells #[.int .u8 100, .int .u8 101] 5 (2, 3))).alloc (.cells #[.slice (some ⟨w6.heap.size, 0, none⟩) 2 2] 27)) := ((Ext.refl w6).alloc (Nat.le_refl _) _).alloc (by simp) _
  have H6b := Lib.hid (H6.out.ext e6)
  refine (Append_any H6b.out.1 (by decide) (by decide) sA _ [[100, 101]] hp6 (by decide) (by decide) (by decide)).mono ?_
  show ∀ (e : Ending) (w' : World), _ = Ending.returned (.int .i64 (cmdE aw4 (roomE aw4 sA 2))) ∧ Disk w' _ b (aw4.app sA [100, 101]) ∧ _ → _
  rw [aw_5.1, aw_5.2]
  rintro e w7 ⟨rfl, hD, hK⟩
  have H7 := Lib.hid (H6b.out.step hD hK)
  clear hD hK hp6 e6
  have hmk := make5
  go_wp2_with (go_at_call 18; fail)
  have hp7 := parts1 (w := w7) (C1 := #[.int .u8 0, .int .u8 0, .int .u8 0, .int .u8 0, .int .u8 0]) (f1 := (0, 0)) (l1 := [0, 0, 0, 0, 0]) (by kernel_rfl) (by decide)
  have e7 : Ext w7 ((w7.alloc (.cells #[.int .u8 0, .int .u8 0, .int .u8 0, .int .u8 0, .int .u8 0] 5)).alloc (.cells #[.slice (some ⟨w7.heap.size, 0, none⟩) 5 5] 27)) := ((Ext.refl w7).alloc (Nat.le_refl _) _).alloc (by simp) _
  have H7b := Lib.hid (H7.out.ext e7)
  refine (Append_any H7b.out.1 (by decide) (by decide) sA _ [[0, 0, 0, 0, 0]] hp7 (by decide) (by decide) (by decide)).mono ?_
  show ∀ (e : Ending) (w' : World), _ = Ending.returned (.int .i64 (cmdE aw5 (roomE aw5 sA 5))) ∧ Disk w' _ b (aw5.app sA [0, 0, 0, 0, 0]) ∧ _ → _
  rw [aw_6.1, aw_6.2]
  rintro e w8 ⟨rfl, hD, hK⟩
  have H8 := Lib.hid (H7b.out.step hD hK)
  clear hD hK hp7 e7 hmk hcv hcv2
  go_wp2_with (go_at_call 29; fail)
  refine (Copy_any H8.out.1).mono ?_
  rintro e w9 ⟨bc, Mc, rfl, hC, hcp, he9⟩
  have hMc := copy_one hcp rfl
  subst hMc
  have HC := Lib.hid hC; have HE9 := Lib.hid he9
  clear hC hcp he9
  go_wp2_with (go_at_call 25; fail)
  have e9 : Ext w9 (w9.alloc (.cells #[.int .u64 1, .int .u64 0, .int .u8 0] 74)) := (Ext.refl w9).alloc (Nat.le_refl _) _
  have hch : ChoicesAt (w9.alloc (.cells #[.int .u64 1, .int .u64 0, .int .u8 0] 74)) (.slice (some ⟨w9.heap.size, 0, none⟩) 1 1) [(1, 0, 0)] := by
    have hb := get_new w9 (.cells #[.int .u64 1, .int .u64 0, .int .u8 0] 74)
    refine .inr ⟨w9.heap.size, 0, 1, rfl, Nat.le_refl _, fun i hi => ?_⟩
    have hi0 : i = 0 := by simp at hi; exact hi
    subst hi0
    exact ⟨cell_of hb 0, cell_of hb 1, cell_of hb 2⟩
  have hD9 : Disk (w9.alloc (.cells #[.int .u64 1, .int .u64 0, .int .u8 0] 74)) (newG w w8) b aw6 := (H8.out.1.ext HE9.out).ext e9
  have hC9 := HC.out.ext e9
  have hX9 : Ext w (w9.alloc (.cells #[.int .u64 1, .int .u64 0, .int .u8 0] 74)) := (H8.out.2.trans HE9.out).trans e9
  refine (Crash_any hD9 _ [(1, 0, 0)] hch (fun k hk hf => by cases hk; have h1 : w9.heap.size < w8.heap.size := hf.2; have := HE9.out.size; omega) (by intro c hc; simp at hc; subst hc; decide)).mono ?_
  rw [aw_7]
  rintro e w10 ⟨rfl, hD10, hK10⟩
  have hK10 : Keeps (newG w w8) (w9.alloc (.cells #[.int .u64 1, .int .u64 0, .int .u8 0] 74)) w10 := hK10
  have hC10 := hC9.keeps hK10 (fun k hk _ hf => by have := hk.1; have := hf.2; omega)
  have hX10 : Ext w w10 := ext_keeps hX9 hK10 (fun k hk => hk.1)
  have hsz9 : w9.heap.size ≤ (w9.alloc (.cells #[.int .u64 1, .int .u64 0, .int .u8 0] 74)).heap.size := by simp
  have hbc : w8.heap.size ≤ bc ∧ bc < w9.heap.size := by obtain ⟨m, mo, fs, hR⟩ := HC.out; exact hR.foot bc (by simp)
  have HD10 := Lib.hid hD10; have HC10 := Lib.hid hC10; have HX10 := Lib.hid hX10; have HS9 := Lib.hid hsz9; have HBC := Lib.hid hbc; have HS10 := Lib.hid hK10.size
  clear e9 hch hD9 hC9 hX9 hD10 hK10 hC10 hX10 hsz9 hbc
  go_wp2_with (go_at_call 27; fail)
  refine (Read_any HD10.out sA).mono ?_
  rw [aw_9.2.2.1, aw_9.2.2.2.1]
  rintro e w11 ⟨v, rfl, hv, hfr, he11⟩
  obtain ⟨av, cv, rfl, _⟩ := owns_slice hv
  have HV := Lib.hid (BytesAt.of_owns hv); have HFR := Lib.hid hfr; have HE11 := Lib.hid he11
  have HD11 := Lib.hid (HD10.out.ext he11); have HC11 := Lib.hid (HC10.out.ext he11)
  clear hv hfr he11
  go_wp2_with (go_at_call 16; fail)
  refine (Arm_any HC11.out 1).mono ?_
  rintro e w12 ⟨rfl, hC12, hK12⟩
  have HC12 := Lib.hid hC12; have HK12 := Lib.hid hK12
  clear hC12 hK12
  go_wp2_with (go_at_call 19; fail)
  refine (Sync_any HC12.out (by decide) (by decide) sA).mono ?_
  rw [aw_8.1, aw_8.2]
  rintro e w13 ⟨rfl, hC13, hK13⟩
  have hS9 := HS9.out
  have hbc := HBC.out
  have hS10 := HS10.out
  have hD13 : Disk w13 (grow (newG w w8) (w9.alloc (.cells #[.int .u64 1, .int .u64 0, .int .u8 0] 74)) w10) b aw7 := (HD11.out.keeps HK12.out (fun k hk _ e => by
      rcases hk with hk | hk
      · have := hk.2; omega
      · have := hk.1; omega)).keeps hK13 (fun k hk _ hf => by
      rcases hk with hk | hk
      · have := hk.2; have := hf.1; omega
      · have := hk.1; have := hf.2; omega)
  have hv13 : BytesAt w13 (.slice av 4 cv) [97, 98, 99, 100] := (HV.out.keeps HK12.out (fun k hk e => by have := HFR.out k hk; omega)).keeps hK13 (fun k hk hf => by have := HFR.out k hk; have := hf.2; omega)
  obtain ⟨a, rfl⟩ : ∃ a, av = some a := by
    rcases hv13 with ⟨_, h0⟩ | ⟨a, cap, h1, _⟩
    · cases h0
    · cases h1; exact ⟨a, rfl⟩
  have hX13 : Ext w w13 := ext_keeps (ext_keeps (HX10.out.trans HE11.out) HK12.out (fun k e => by have := H8.out.2.size; omega)) hK13 (fun k hk => by have := H8.out.2.size; have := hk.1; omega)
  have hcs : (convert 27 9 (.slice (some a) 4 cv)).run Try.prog w13 = .ok (.string ⟨#[97, 98, 99, 100]⟩) w13 := by
    rcases hv13 with ⟨h1, _⟩ | ⟨a', cap, h1, _, _, h5⟩
    · cases h1
    · cases h1
      exact run_convert_bytes_back w13 27 9 5 a cv [97, 98, 99, 100] Try.underlying27 Try.underlying5 Try.underlying9 h5
  have HC13 := Lib.hid hC13; have HD13 := Lib.hid hD13; have HX13 := Lib.hid hX13
  clear hC13 hK13 hD13 hv13 hX13 hS9 hbc hS10
  go_wp2_with (go_at_call 22; fail)
  refine (Down_any HC13.out).mono ?_
  rintro e w13' ⟨rfl, rfl⟩
  go_wp2_with (go_at_call 30; fail)
  obtain ⟨m, mo, fs, hR13⟩ := HD13.out
  refine (used_any hR13).mono ?_
  rw [aw_9.2.2.2.2.1]
  rintro e w14 ⟨rfl, he14⟩
  have HD14 := Lib.hid (HD13.out.ext he14); have HE14 := Lib.hid he14
  clear hR13 he14
  go_wp2_with (go_at_call 23; fail)
  refine (Steps_any HD14.out).mono ?_
  rintro e w14' ⟨rfl, rfl⟩
  go_wp2_with (go_at_call 31; fail)
  refine (Name_any ⟨#[120, 45, 49]⟩ _ (by decide)).mono ?_
  rw [aw_9.2.2.2.2.2]
  rintro e w15 ⟨rfl, he15⟩
  have HD15 := Lib.hid (HD14.out.ext he15); have HE15 := Lib.hid he15
  clear he15
  go_wp2_with (go_at_call 26; fail)
  refine (List_any HD15.out).mono ?_
  rw [aw_10]
  rintro e w16 ⟨vl, rfl, hvl, -, he16⟩
  obtain ⟨al, cl, rfl, _⟩ := owns_slice hvl
  have HE16 := Lib.hid he16
  clear hvl he16
  go_wp2
  go_ret
  exact ⟨rfl, ((HX13.out.trans HE14.out).trans HE15.out).trans HE16.out⟩
end Go.Proofs.Ytjbalcfdenaneaa
