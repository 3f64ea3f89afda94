/- Walks: a file's crash. -/
import Derived.Test.YtjbalcfdenaneaaDkG
import Derived.Laws.BitsAllLaws
namespace Go.Proofs.Ytjbalcfdenaneaa
open Go Go.RowKit Go.ChangeMaps Mu
set_option maxRecDepth 100000
set_option maxHeartbeats 1000000
attribute [local go_sem] drew_heap get_alloc

/-- how much of a tail stays -/
def keepOf (data : List UInt8) (syn K : Nat) : Nat := K % (data.length - syn + 1)
def crashD (data : List UInt8) (syn K A : Nat) (fl : UInt8) : List UInt8 :=
  let k := keepOf data syn K
  let d := data.take (syn + k)
  if k = 0 then d else d.set (syn + A % k) ((d.getD (syn + A % k) 0) ^^^ fl)
def boxC (K A : Nat) (fl : UInt8) : Obj := .cells #[.int .u64 K, .int .u64 A, .int .u8 fl.toNat] 74 (0, 0)

theorem owns_cap {w : World} {B e n c : Nat} {a : Option Addr} {xs : List Value} (h : w.ownsRow B e 1 (.slice a n c) n xs) : n ≤ c := by
  rcases h.2 with ⟨h1, h0⟩ | ⟨g, cap, cur, h1, _, _, h2, _⟩
  · omega
  · cases h1; exact h2
theorem bytes_take {w : World} {a : Option Addr} {c : Nat} {l : List UInt8} (h : BytesAt w (.slice a l.length c) l) {m : Nat} (hm : m ≤ l.length) : BytesAt w (.slice a m c) (l.take m) := by
  rcases h with ⟨h1, rfl⟩ | ⟨a', cap, h1, h2, h3, h5⟩
  · simp at hm; subst hm; exact .inl ⟨by simpa using h1, by simp⟩
  · cases h1
    have hl : (l.take m).length = m := by simp; omega
    refine .inr ⟨a', _, by rw [hl], by omega, h3, fun i hi => ?_⟩
    rw [h5 i (by omega)]; simp

theorem crash_any {w : World} {x : Nat} {v : Value} {data : List UInt8} {syn : Nat} (hf : w.heap[x]? = some (fileO v syn)) (ho : w.ownsRow 0 5 1 v data.length (encB data)) (hvx : v.ownBlock ≠ some x) (hs : syn ≤ data.length) (hl : data.length ≤ 67108864) (Kp A : Nat) (hKp : Kp ≤ 18446744073709551615) (hA : A ≤ 18446744073709551615) (fl : UInt8) :
    Calls Try.prog 53 #[.pointer (some ⟨x, 0, none⟩), .agg #[.int .u64 Kp, .int .u64 A, .int .u8 fl.toNat]] w fun e w' => e = .returned (.tuple #[]) ∧ ∃ v', w'.heap[x]? = some (fileO v' (crashD data syn Kp A fl).length) ∧
      w'.ownsRow 0 5 1 v' (crashD data syn Kp A fl).length (encB (crashD data syn Kp A fl)) ∧ (∀ g, v'.ownBlock = some g → w.heap.size ≤ g) ∧ Keeps (fun k => k = x) w w' := by
  obtain ⟨av, cv, rfl, hcap⟩ := owns_slice ho
  have hxl := lt_of_get hf
  -- the world behind the box
  have e1 : Ext w (w.alloc (boxC Kp A fl)) := (Ext.refl w).alloc (Nat.le_refl _) _
  have hf1 : (w.alloc (boxC Kp A fl)).heap[x]? = some (fileO (.slice av data.length cv) syn) := e1.get hf
  have hb1 : (w.alloc (boxC Kp A fl)).heap[w.heap.size]? = some (boxC Kp A fl) := get_new _ _
  have c0 : (w.alloc (boxC Kp A fl)).cell? ⟨x, 0, none⟩ = some (.slice av data.length cv) := cell_of hf1 0
  have c1 : (w.alloc (boxC Kp A fl)).cell? ⟨x, 1, none⟩ = some (.int .i64 syn) := cell_of hf1 1
  have d0 : (w.alloc (boxC Kp A fl)).cell? ⟨w.heap.size, 0, none⟩ = some (.int .u64 Kp) := cell_of hb1 0
  have d1 : (w.alloc (boxC Kp A fl)).cell? ⟨w.heap.size, 1, none⟩ = some (.int .u64 A) := cell_of hb1 1
  have d2 : (w.alloc (boxC Kp A fl)).cell? ⟨w.heap.size, 2, none⟩ = some (.int .u8 fl.toNat) := cell_of hb1 2
  simp only [boxC] at c0 c1 d0 d1 d2
  have hT : ∃ T : Nat, T = data.length - syn := ⟨_, rfl⟩
  obtain ⟨T, hT⟩ := hT
  have n1 : IntKind.i64.wrap ((data.length : Int) - syn) = T := by rw [IntWalk.i64_in _ (by omega)]; omega
  have n2 : IntKind.u64.wrap (T : Int) = T := IntWalk.u64_in _ (by omega)
  have n3 : IntKind.u64.wrap ((T : Int) + 1) = ((T + 1 : Nat) : Int) := by rw [IntWalk.u64_in _ (by omega)]; omega
  have hcv := owns_cap ho
  have HCV := Lib.hid hcv; clear hcv
  have HF := Lib.hid hf; have HO := Lib.hid ho; have HX := Lib.hid hvx; have HL := Lib.hid hl; have HS := Lib.hid hs; have HT := Lib.hid hT
  have HF1 := Lib.hid hf1; have HB1 := Lib.hid hb1
  clear hf ho hvx hl hs hT hf1 hb1 e1
  go_enter Try.func53, Try.ntmps53
  go_wp2
  refine wp_region_sig (tg [0,0,0,1,0,0,0,0,1,0,0,0]) [0,1,2,3,4,5,6,7,8,9,10,11] (by kernel_rfl) (by kernel_rfl) ?_
  repeat (first | (refine sig_p rfl rfl (fun K hK => ?_); go_simp; refine hK _ ?_; clear hK K) | (refine sig_q rfl rfl (fun K hK => ?_); go_simp; refine hK _ ?_; clear hK K) | (refine sig_r rfl rfl rfl (fun K hK => ?_); go_simp; refine hK _ _ _ ?_; clear hK K))
  refine sig_nil ?_
  go_wp2
  have hkk : ((Kp : Int) % ((T : Int) + 1)) = ((Kp % (T + 1) : Nat) : Int) := by push_cast; rfl
  rw [hkk]
  obtain ⟨k, hk⟩ : ∃ k, k = Kp % (T + 1) := ⟨_, rfl⟩
  rw [← hk]
  have hkT : k ≤ T := by rw [hk]; have := Nat.mod_lt Kp (show 0 < T + 1 by omega); omega
  have hkv : keepOf data syn Kp = k := by rw [hk, HT.out]; rfl
  have HKV := Lib.hid hkv
  clear hkk hk hkv n1 n2 n3
  have m1 : IntKind.i64.wrap (k : Int) = k := IntWalk.i64_in _ (by have := HT.out; have := HL.out; omega)
  have m2 : IntKind.i64.wrap ((syn : Int) + k) = ((syn + k : Nat) : Int) := by rw [IntWalk.i64_in _ (by have := HT.out; have := HL.out; have := HS.out; omega)]; omega
  have m3 : syn + k ≤ cv := by have := HT.out; have := HS.out; have := HCV.out; omega
  have m4 : (0 : Int) ≤ (syn : Int) + k := by omega
  have m5 : (syn : Int) + k ≤ cv := by omega
  refine wp_region_sig (tg [0,0,0,0,1,0,0,0,1,0,0,0,0,3,0,0,3]) [0,1,2,3,4,5,6,7,8,9,10,11,12,13,14,15,16] (by kernel_rfl) (by kernel_rfl) ?_
  repeat (first | (refine sig_p rfl rfl (fun K hK => ?_); go_simp; refine hK _ ?_; clear hK K) | (refine sig_q rfl rfl (fun K hK => ?_); go_simp; refine hK _ ?_; clear hK K) | (refine sig_r rfl rfl rfl (fun K hK => ?_); go_simp; refine hK _ _ _ ?_; clear hK K))
  refine sig_e rfl rfl rfl (fun K hK => ?_)
  go_simp
  rw [show ((syn : Int) + k).toNat = syn + k by omega]
  have hle : syn + k ≤ data.length := by have := HT.out; have := HS.out; omega
  have hlen : (data.take (syn + k)).length = syn + k := by rw [List.length_take]; omega
  have e2 : Ext w ((w.alloc (boxC Kp A fl)).drew).drew := (((Ext.refl w).alloc (Nat.le_refl _) _).drew).drew
  refine (Clone_any ((bytes_take (BytesAt.of_owns HO.out) hle).ext e2) (by rw [hlen]; have := HL.out; omega)).mono ?_
  rintro e w2 ⟨v2, rfl, ho2, hf2, he2⟩
  have he2 : Ext ((w.alloc (boxC Kp A fl)).drew).drew w2 := he2
  have hf2 : ∀ g, v2.ownBlock = some g → w.heap.size < g := fun g hg => by have := hf2 g hg; simp at this; omega
  rw [hlen] at ho2
  obtain ⟨a2, c2, hv2, hm2⟩ := owns_slice ho2
  have hx2 : w2.heap[x]? = some (fileO (.slice av data.length cv) syn) := he2.get HF1.out
  have hb2 : w2.heap[w.heap.size]? = some (boxC Kp A fl) := he2.get HB1.out
  have fr2 := free_of hx2 0
  have x20 : w2.cell? ⟨x, 0, none⟩ = some (.slice av data.length cv) := cell_of hx2 0
  have lx2 := lt_of_get hx2
  have ho3 : (w2.setCell ⟨x, 0, none⟩ v2).ownsRow 0 5 1 v2 (syn + k) (encB (data.take (syn + k))) := owns_move ho2 (fun g hg => Below.heap_setCell _ _ _ _ (fun e => by have := hf2 g hg; simp at e; omega))
  have hx3 : (w2.setCell ⟨x, 0, none⟩ v2).heap[x]? = some (fileO v2 syn) := get_setCell (i := 0) v2 hx2
  have hb3 : (w2.setCell ⟨x, 0, none⟩ v2).heap[w.heap.size]? = some (boxC Kp A fl) := by
    rw [Below.heap_setCell _ _ _ _ (by simp; omega)]; exact hb2
  have hk3 : Keeps (fun k => k = x) w (w2.setCell ⟨x, 0, none⟩ v2) := Keeps.setCell (F := fun k => k = x) (Keeps.of_ext (e2.trans he2)) (.inl rfl) _
  obtain ⟨w3, hw3⟩ : ∃ w3, w3 = w2.setCell ⟨x, 0, none⟩ v2 := ⟨_, rfl⟩
  rw [← hw3] at ho3 hx3 hb3 hk3
  subst hv2
  have HW3 := Lib.hid hw3
  have HO3 := Lib.hid ho3; have HX3 := Lib.hid hx3; have HK3 := Lib.hid hk3; have HF2 := Lib.hid hf2
  have x30 : w3.cell? ⟨x, 0, none⟩ = some (.slice a2 (syn + k) c2) := cell_of hx3 0
  have x31 : w3.cell? ⟨x, 1, none⟩ = some (.int .i64 syn) := cell_of hx3 1
  have f31 : w3.frozen? ⟨x, 1, none⟩ = false := free_of hx3 1
  have d31 : w3.cell? ⟨w.heap.size, 1, none⟩ = some (.int .u64 A) := cell_of hb3 1
  have d32 : w3.cell? ⟨w.heap.size, 2, none⟩ = some (.int .u8 fl.toNat) := cell_of hb3 2
  clear ho2 ho3 hx3 hb3 hk3 hx2 hb2 he2 hf2 e2 hw3 c0 c1 d0 d1 d2
  apply hK <;> clear hK K
  · repeat (first | exact keeps_none | refine keeps_waits rfl ?_ | refine keeps_put (by go_simp) ?_)
  repeat (first | (refine sig_p rfl rfl (fun K hK => ?_); go_simp; refine hK _ ?_; clear hK K))
  refine sig_e rfl rfl rfl (fun K hK => ?_)
  go_simp
  rw [← HW3.out]
  clear x20 fr2
  apply hK <;> clear hK K
  · repeat (first | exact keeps_none | refine keeps_waits rfl ?_ | refine keeps_put (by go_simp) ?_)
  refine sig_nil ?_
  clear m1 m4 m5 m2 m3
  rcases Nat.eq_zero_or_pos k with hk0 | hk0
  · subst hk0
    have q : crashD data syn Kp A fl = data.take (syn + 0) := by simp [crashD, HKV.out]
    have Q0 := Lib.hid q
    have Q := Lib.hid hlen
    clear q hlen
    have hk4 : Keeps (fun k => k = x) w (w3.setCell ⟨x, 1, none⟩ (.int .i64 (syn + 0 : Nat))) := Keeps.setCell (F := fun k => k = x) HK3.out (.inl rfl) _
    have hx4 := get_setCell (i := 1) (.int .i64 (syn + 0 : Nat)) HX3.out
    have ho4 : (w3.setCell ⟨x, 1, none⟩ (.int .i64 (syn + 0 : Nat))).ownsRow 0 5 1 (.slice a2 (syn + 0) c2) (syn + 0) (encB (data.take (syn + 0))) := owns_move HO3.out (fun g hg => Below.heap_setCell _ _ _ _ (fun e => by have := HF2.out g hg; simp at e; omega))
    have HK4 := Lib.hid hk4; have HX4 := Lib.hid hx4; have HO4 := Lib.hid ho4
    clear hk4 hx4 ho4
    go_wp2
    go_end0
    refine ⟨rfl, .slice a2 (syn + 0) c2, ?_, ?_, fun g hg => Nat.le_of_lt (HF2.out g hg), HK4.out⟩
    · rw [Q0.out, Q.out]; exact HX4.out
    · rw [Q0.out, Q.out]; exact HO4.out
  · obtain ⟨q, hq⟩ : ∃ q, q = A % k := ⟨_, rfl⟩
    have hqk : q < k := by rw [hq]; exact Nat.mod_lt _ hk0
    have hqe : (A : Int).tmod (k : Int) = (q : Int) := by rw [IntWalk.rem_in _ _ (by omega), hq]; push_cast; rfl
    have hkn : ¬ k = 0 := by omega
    have htn : ((syn : Int) + q).toNat = syn + q := by omega
    obtain ⟨g, rfl⟩ : ∃ g, a2 = some ⟨g, 0, none⟩ := by
      rcases HO3.out.2 with ⟨_, h0⟩ | ⟨g, cap, cur, h1, _⟩
      · omega
      · cases h1; exact ⟨g, rfl⟩
    have hdl : syn + q < data.length := by omega
    have hcell : w3.cell? ⟨g, syn + q, none⟩ = some (.int .u8 (data[syn + q]).toNat) := by
      rw [HO3.out.cellAt (syn + q) (by omega)]
      simp [encB, List.getElem?_take, hdl]; omega
    have hfroz : w3.frozen? ⟨g, syn + q, none⟩ = false := HO3.out.frozenAt (syn + q)
    have hqi : IntKind.i64.wrap (q : Int) = q := IntWalk.i64_in _ (by have := HL.out; omega)
    have hqs : IntKind.i64.wrap ((syn : Int) + q) = (syn : Int) + q := IntWalk.i64_in _ (by have := HL.out; omega)
    have hq0 : (0 : Int) ≤ (syn : Int) + q := by omega
    have hq1 : (syn : Int) + q < ((syn + k : Nat) : Int) := by omega
    have hxr : bits .xor .u8 ((data[syn + q]).toNat : Int) (fl.toNat : Int) = ((data[syn + q] ^^^ fl).toNat : Int) := by
      rw [u8_xor_nat _ _ (UInt8.toNat_lt _) (UInt8.toNat_lt _), UInt8.toNat_xor]
    have hgx : g ≠ x := by have := HF2.out g rfl; omega
    have hk4 : Keeps (fun k => k = x) w (w3.setCell ⟨g, syn + q, none⟩ (.int .u8 (data[syn + q] ^^^ fl).toNat)) := Keeps.setCell (F := fun k => k = x) HK3.out (.inr (Nat.le_of_lt (HF2.out g rfl))) _
    have ho4 := (HO3.out.stored (syn + q) (.int .u8 (data[syn + q] ^^^ fl).toNat)).1
    have hx4 : (w3.setCell ⟨g, syn + q, none⟩ (.int .u8 (data[syn + q] ^^^ fl).toNat)).heap[x]? = some (fileO (.slice (some ⟨g, 0, none⟩) (syn + k) c2) syn) := by
      rw [Below.heap_setCell _ _ _ _ (fun e => hgx e.symm)]; exact HX3.out
    obtain ⟨w4, hw4⟩ : ∃ w4, w4 = w3.setCell ⟨g, syn + q, none⟩ (.int .u8 (data[syn + q] ^^^ fl).toNat) := ⟨_, rfl⟩
    rw [← hw4] at hk4 ho4 hx4
    have x40 : w4.cell? ⟨x, 0, none⟩ = some (.slice (some ⟨g, 0, none⟩) (syn + k) c2) := cell_of hx4 0
    have x41 : w4.cell? ⟨x, 1, none⟩ = some (.int .i64 syn) := cell_of hx4 1
    have f41 : w4.frozen? ⟨x, 1, none⟩ = false := free_of hx4 1
    have hcr : (crashD data syn Kp A fl) = (data.take (syn + k)).set (syn + q) (data[syn + q] ^^^ fl) := by
      unfold crashD
      simp only [HKV.out, hkn, if_false, ← hq]
      congr 2
      rw [List.getD_eq_getElem?_getD, List.getElem?_take]
      simp [hqk, hdl]
    have hcl : (crashD data syn Kp A fl).length = syn + k := by rw [hcr, List.length_set, hlen]
    have hen : encB (crashD data syn Kp A fl) = (encB (data.take (syn + k))).set (syn + q) (.int .u8 (data[syn + q] ^^^ fl).toNat) := by
      rw [hcr]; simp [encB, List.map_set]
    rw [← hen] at ho4
    have hk5 : Keeps (fun k => k = x) w (w4.setCell ⟨x, 1, none⟩ (.int .i64 (syn + k : Nat))) := Keeps.setCell (F := fun k => k = x) hk4 (.inl rfl) _
    have hx5 := get_setCell (i := 1) (.int .i64 (syn + k : Nat)) hx4
    have ho5 : (w4.setCell ⟨x, 1, none⟩ (.int .i64 (syn + k : Nat))).ownsRow 0 5 1 (.slice (some ⟨g, 0, none⟩) (syn + k) c2) (syn + k) (encB (crashD data syn Kp A fl)) := owns_move ho4 (fun g' hg => Below.heap_setCell _ _ _ _ (fun e => by have := HF2.out g' hg; simp at e; omega))
    have HW4 := Lib.hid hw4; have HK5 := Lib.hid hk5; have HX5 := Lib.hid hx5; have HO5 := Lib.hid ho5; have HCL := Lib.hid hcl
    clear hw4 hk4 ho4 hx4 hcr hen hk5 hx5 ho5 hcl hgx
    have hkz : ((k : Int) == 0) = false := by simp; omega
    have hkg : decide ((0 : Int) < k) = true := by simp; omega
    have HQ := Lib.hid hq; have HQK := Lib.hid hqk
    clear hq
    go_wp2
    refine wp_region_sig (tg [0,0,0,1,0,0,0,1,0,1,0,0,0,0,0,1,0,1,0,0,3]) [0,1,2,3,4,5,6,7,8,9,10,11,12,13,14,15,16,17,18,19,20] (by kernel_rfl) (by kernel_rfl) ?_
    repeat (first | (refine sig_p rfl rfl (fun K hK => ?_); go_simp; refine hK _ ?_; clear hK K) | (refine sig_q rfl rfl (fun K hK => ?_); go_simp; refine hK _ ?_; clear hK K) | (refine sig_r rfl rfl rfl (fun K hK => ?_); go_simp; refine hK _ _ _ ?_; clear hK K))
    refine sig_e rfl rfl rfl (fun K hK => ?_)
    go_simp
    rw [← UInt8.toNat_xor, ← HW4.out]
    apply hK <;> clear hK K
    · repeat (first | exact keeps_none | refine keeps_waits rfl ?_ | refine keeps_put (by go_simp) ?_)
    clear x30 x31 f31 hcell hfroz
    refine sig_nil ?_
    go_wp2
    go_end0
    have en : ((syn + k : Nat) : Int) = (syn : Int) + k := by push_cast; rfl
    rw [en] at HK5 HX5 HO5
    refine ⟨rfl, .slice (some ⟨g, 0, none⟩) (syn + k) c2, ?_, ?_, fun g hg => Nat.le_of_lt (HF2.out g hg), HK5.out.drew⟩
    · rw [HCL.out]; unfold fileO; rw [en]; exact HX5.out
    · rw [HCL.out]; exact HO5.out
end Go.Proofs.Ytjbalcfdenaneaa
