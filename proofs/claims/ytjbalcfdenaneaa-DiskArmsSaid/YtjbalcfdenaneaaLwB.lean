/- A command's effect on the power; DiskArms. -/
import Derived.Test.YtjbalcfdenaneaaLwA
import Derived.Test.YtjbalcfdenaneaaDkF
namespace Go.Proofs.Ytjbalcfdenaneaa
open Go Go.RowKit Go.ChangeMaps Mu
set_option maxRecDepth 100000
set_option maxHeartbeats 8000000
attribute [local go_sem] drew_heap get_alloc

/-- what the power is behind a command -/
def DM.pow (M : DM) : Nat × Nat × Bool × Nat := (M.armed, M.steps, M.down, M.cap)
def DM.tick (M : DM) : DM := if M.down = true then M else M.go
theorem cmd_pow {M M3 : DM} (x : Int) (h : M3.pow = M.go.pow) : (M.cmd M3 x).pow = M.tick.pow := by
  unfold DM.cmd DM.tick; split
  · rfl
  · split
    · exact h
    · rfl
theorem app_pow (M : DM) (n : ByteArray) (l : List UInt8) : (M.app n l).pow = M.tick.pow := by
  unfold DM.app DM.tick; split
  · rfl
  · split <;> rfl
theorem rename_pow (M : DM) (a t : ByteArray) : (M.rename a t).pow = M.pow := by unfold DM.rename; split <;> rfl

theorem cmdE_24 {M : DM} {x : Int} (hx : x ≠ 24) : (cmdE M x == 24) = decide (M.down = true ∨ M.armed = 1) := by
  unfold cmdE
  by_cases h : M.down = true ∨ M.armed = 1
  · simp [h]
  · simp [h, hx]
theorem thereE_24 (M : DM) (n : ByteArray) : thereE M n ≠ 24 := by unfold thereE; split <;> decide
theorem createE_24 (M : DM) (n : ByteArray) : createE M n ≠ 24 := by unfold createE; (repeat' split) <;> decide
theorem renameE_24 (M : DM) (a t : ByteArray) : renameE M a t ≠ 24 := by unfold renameE; (repeat' split) <;> decide

/-- armed for the n-th command, k are through -/
def Armed (n k : Nat) (M : DM) : Prop := M.armed = n - k ∧ M.steps = min k n ∧ M.down = decide (n ≤ k)
theorem Armed.tick {n k : Nat} {M M' : DM} (h : Armed n k M) (hp : M'.pow = M.tick.pow) : Armed n (k + 1) M' := by
  obtain ⟨h1, h2, h3⟩ := h
  have hp' : M'.armed = M.tick.armed ∧ M'.steps = M.tick.steps ∧ M'.down = M.tick.down := by
    simp only [DM.pow, Prod.mk.injEq] at hp; exact ⟨hp.1, hp.2.1, hp.2.2.1⟩
  unfold Armed
  rw [hp'.1, hp'.2.1, hp'.2.2]
  unfold DM.tick
  by_cases hk : n ≤ k
  · have hd : M.down = true := by rw [h3]; simpa using hk
    rw [if_pos hd, h1, h2, hd]
    refine ⟨by omega, by omega, ?_⟩
    have : n ≤ k + 1 := by omega
    simp [this]
  · have hd : M.down = false := by rw [h3]; simpa using hk
    rw [if_neg (by rw [hd]; decide)]
    refine ⟨by simp only [DM.go]; omega, by simp only [DM.go]; omega, ?_⟩
    simp only [DM.go, hd, Bool.false_and, Bool.or_false, h1]
    by_cases h4 : n ≤ k + 1
    · have : n - k = 1 := by omega
      simp [this, h4]
    · have : ¬ n - k = 1 := by omega
      simp [this, h4]
theorem Armed.goes {n k : Nat} {M : DM} (h : Armed n k M) : decide (M.down = true ∨ M.armed = 1) = decide (n ≤ k + 1) := by
  obtain ⟨h1, h2, h3⟩ := h
  rw [h1, h3]
  by_cases h4 : n ≤ k + 1 <;> simp [h4] <;> omega

theorem parts_one {w : World} {v : Value} {l : List UInt8} (h : BytesAt w v l) : PartsS (w.alloc (.cells #[v] 27)) (.slice (some ⟨w.heap.size, 0, none⟩) 1 1) [l] := by
  have e : Ext w (w.alloc (.cells #[v] 27)) := (Ext.refl w).alloc (Nat.le_refl _) _
  have hb := get_new w (.cells #[v] 27)
  refine ⟨w.heap.size, 0, 1, [v], rfl, by simp, by simp, fun i u hu => ?_, fun i u l' hu hl => ?_⟩
  · cases i with
    | zero => simp at hu; subst hu; exact cell_of hb 0
    | succ i => simp at hu
  · cases i with
    | zero => simp at hu hl; subst hu; subst hl; exact h.ext e
    | succ i => simp at hu

theorem newG_step {w wr w2 w' : World} {b : Nat} {M : DM} (he : Ext w wr) (he2 : Ext wr w2) (hD : Disk w' (grow (newG w wr) w2 w') b M) (hK : Keeps (newG w wr) w2 w') : Disk w' (newG w w') b M ∧ Ext w w' := by
  refine ⟨hD.mono (fun k hk => ?_) (fun k hk => hk.2), ?_⟩
  · rcases hk with hk | hk
    · exact ⟨hk.1, Nat.lt_of_lt_of_le hk.2 (Nat.le_trans he2.size hK.size)⟩
    · exact ⟨Nat.le_trans (he.trans he2).size hk.1, hk.2⟩
  · exact ext_keeps (he.trans he2) hK (fun k hk => hk.1)

theorem arms_of {w wr w2 : World} {b : Nat} {M M' : DM} {f : FuncId} {args : Array Value} {x : Int} {n k : Nat} (he : Ext w wr) (he2 : Ext wr w2) (hA : Armed n k M) (hx : x ≠ 24) (hp : M'.pow = M.tick.pow)
    (hc : Calls Try.prog f args w2 fun e w' => e = .returned (.int .i64 (cmdE M x)) ∧ Disk w' (grow (newG w wr) w2 w') b M' ∧ Keeps (newG w wr) w2 w') :
    Calls Try.prog f args w2 fun e w' => ∃ V M', e = .returned (.int .i64 V) ∧ (V == 24) = decide (n ≤ k + 1) ∧ M'.down = decide (n ≤ k + 1) ∧ M'.steps = min (k + 1) n ∧ Armed n (k + 1) M' ∧ Disk w' (newG w w') b M' ∧ Ext w w' := by
  refine hc.mono ?_
  rintro e w' ⟨rfl, hD, hK⟩
  obtain ⟨hD', hE'⟩ := newG_step he he2 hD hK
  have hA' := hA.tick hp
  exact ⟨_, M', rfl, by rw [cmdE_24 hx, hA.goes], hA'.2.2, hA'.2.1, hA', hD', hE'⟩

theorem DiskArms_any (hawake : ∀ w, Calls Try.prog 8 #[] w fun e w' => e = .returned (.bool true) ∧ Ext w w') {w : World} {v : Value} {l : List OpR} (h : OpsAt w v l) (n : Int) (hn : n ≤ 9223372036854775807) :
    Calls Try.prog 4 #[v, .int .i64 n] w fun e w' => e = .returned (.bool true) ∧ Ext w w' := by
  have H := Lib.hid h
  obtain ⟨a, c, rfl⟩ := h.slice
  have hm := h.2.1
  unfold maxLen at hm
  have HW := Lib.hid hawake
  have HSM := Lib.hid (small_any h)
  clear h hawake
  rcases Bool.eq_false_or_eq_true (smallB l) with hs | hs
  · rw [hs] at HSM
    have hl60 : l.length ≤ 60 := by unfold smallB at hs; rw [Bool.and_eq_true] at hs; simpa using hs.2
    have hbig : ∀ r ∈ l, ¬ r.o.big := by unfold smallB at hs; rw [Bool.and_eq_true, List.all_eq_true] at hs; intro r hr; simpa using hs.1 r hr
    have HBIG := Lib.hid hbig
    clear hs hbig
    by_cases h1 : n < 1
    · go_enter Try.func4, Try.ntmps4
      go_wp2_with (first | (go_at_call 14; refine HSM.out.mono ?_; rintro e w1 ⟨rfl, he1⟩) | (go_at_call 8; refine (HW.out _).mono ?_; rintro e w2 ⟨rfl, he2⟩))
      go_ret
      exact ⟨rfl, Ext.trans he1 he2⟩
    · obtain ⟨n, rfl⟩ : ∃ m : Nat, n = m := ⟨n.toNat, by omega⟩
      have hof : ofE 500 [] = 0 := by decide
      go_enter Try.func4, Try.ntmps4
      go_wp2_with (first | (go_at_call 14; refine HSM.out.mono ?_; rintro e w1 ⟨rfl, he1⟩) | (go_at_call 15; fail))
      refine (New_any w1 500).mono ?_
      rintro e w2 (⟨hne, _⟩ | ⟨_, b, rfl, hD, he2⟩)
      · exact absurd hof hne
      have he2 : Ext w1 w2 := he2
      have HD := Lib.hid hD; have HE1 := Lib.hid he1; have HE2 := Lib.hid he2
      clear hD he1 he2 hof
      go_wp2_with (go_at_call 16; refine (Arm_any HD.out n).mono ?_; rintro e w3 ⟨rfl, hD3, hK3⟩; have HD3 := Lib.hid hD3; have HK3 := Lib.hid hK3; clear hD3 hK3)
      have h1 : 1 ≤ n := by omega
      have hn2 : n ≤ 9223372036854775807 := by omega
      have hinit : Disk w3 (newG w w3) b ((ofM 500 []).arm n) := HD3.out.mono (fun k hk => ⟨Nat.le_trans HE1.out.size hk.1, Nat.lt_of_lt_of_le hk.2 HK3.out.size⟩) (fun k hk => hk.2)
      have hD0 := HD.out
      have hX3 : Ext w w3 := ext_keeps (HE1.out.trans HE2.out) HK3.out (fun k hk => by
        subst hk
        obtain ⟨m, mo, fs, hR⟩ := hD0
        exact Nat.le_trans HE1.out.size (hR.foot k (by simp)).1)
      have hA0 : Armed n 0 ((ofM 500 []).arm n) := by
        have : ¬ n ≤ 0 := by omega
        simp [Armed, DM.arm, ofM, this]
      have HI := Lib.hid hinit; have HX3 := Lib.hid hX3; have HA0 := Lib.hid hA0
      clear hinit hX3 hA0 hD0
      go_wp2_with fail
      go_loopg [7, 36] l.length (fun g s7 s36 wr => ∃ (i k : Nat) (M : DM), s7 = .int .i64 k ∧ s36 = .int .i64 i ∧ k ≤ i ∧ i ≤ l.length ∧ g = l.length - i ∧ Ext w wr ∧ Disk wr (newG w wr) b M ∧ Armed n k M)
      case atStart => exact ⟨0, 0, _, rfl, rfl, Nat.le_refl _, Nat.zero_le _, rfl, HX3.out, HI.out, HA0.out⟩
      case round =>
        obtain ⟨i, k, M, rfl, rfl, hki, hi, hg, hext, hD, hA⟩ := hrel
        rcases Nat.lt_or_ge i l.length with hlt | hge
        · obtain ⟨g0, o0, c', ad, cd, am, cm, ac, cc, hv, hgl, ev, -, -, k0, k1, k2, k3, k4, k5, k6⟩ := H.out.at_ hext hlt
          cases hv
          have hok := (H.out.ext hext).1 l[i] (List.getElem_mem hlt)
          have hbg := HBIG.out l[i] (List.getElem_mem hlt)
          have hdl : l[i].o.data.length ≤ 200 := by
            unfold OpM.big at hbg
            exact Nat.le_of_not_lt (fun h => hbg (.inl h))
          have HX := Lib.hid hext; have HDD := Lib.hid hD; have HA := Lib.hid hA; have HG := Lib.hid hg; have HOK := Lib.hid hok
          have hdat := hok.data
          rw [ev] at hdat
          have HDAT := Lib.hid hdat
          clear hext hD hA hg hok hdat hbg ev
          have hst : M.steps ≤ 1000000000 := by have := HA.out.2.1; omega
          have har : M.armed ≤ 9223372036854775807 := by have := HA.out.1; omega
          generalize hfe : l[i] = r at *
          obtain ⟨⟨kind, name, to, data, more, nn, ch⟩, vd, vm, vc⟩ := r
          simp only at k0 k1 k2 k3 k4 k5 k6 hdl HDAT
          have e2 : Ext wr (wr.alloc (.cells #[.int .i64 kind, .string name, .string to, .slice ad data.length cd, .slice am more.length cm, .int .i64 nn, .slice ac ch.length cc] 54)) := (Ext.refl wr).alloc (Nat.le_refl _) _
          obtain ⟨w2', hw2'⟩ : ∃ w2', w2' = (wr.alloc (.cells #[.int .i64 kind, .string name, .string to, .slice ad data.length cd, .slice am more.length cm, .int .i64 nn, .slice ac ch.length cc] 54)) := ⟨_, rfl⟩
          have hbx : w2'.heap[wr.heap.size]? = some (.cells #[.int .i64 kind, .string name, .string to, .slice ad data.length cd, .slice am more.length cm, .int .i64 nn, .slice ac ch.length cc] 54 (0, 0)) := by rw [hw2']; exact get_new _ _
          rw [← hw2'] at e2
          have hsz2 : w2'.heap.size = wr.heap.size + 1 := by rw [hw2']; simp
          have HSZ2 := Lib.hid hsz2
          clear hsz2
          have HE2' := Lib.hid e2
          have HW2 := Lib.hid hw2'
          have hD2 := HDD.out.ext e2
          have HD2 := Lib.hid hD2
          have HNM := Lib.hid HOK.out.name; have HTO := Lib.hid HOK.out.to
          have HST := Lib.hid hst; have HAR := Lib.hid har
          have z0 := cell_of hbx 0; have z1 := cell_of hbx 1; have z2 := cell_of hbx 2; have z3 := cell_of hbx 3
          have hkk : k ≤ 60 := by omega
          have hwr : IntKind.i64.wrap ((k : Int) + 1) = (k : Int) + 1 := IntWalk.i64_in _ (by omega)
          clear hfe e2 hw2' hD2 hst har hbx
          by_cases c1 : kind = 1
          · subst c1
            have HKEY := Lib.hid (arms_of HX.out HE2'.out HA.out (createE_24 M name) (cmd_pow _ (by rfl)) (Create_any HD2.out HST.out HAR.out name HNM.out))
            go_wp2_with fail
            rw [← HW2.out]
            go_wp2_with (go_at_call 17; refine HKEY.out.mono ?_; rintro e w4 ⟨V, M', rfl, hV, hdn, hstp, hAn, hDn, hEn⟩; have HAN := Lib.hid hAn; have HDN := Lib.hid hDn; have HEN := Lib.hid hEn; clear hAn hDn hEn)
            · skip
              clear HKEY
              by_cases hnk : n ≤ k + 1
              · have a1 : (V == 24) = true := by rw [hV]; simpa using hnk
                have a2 : M'.down = true := by rw [hdn]; simpa using hnk
                have a3 : (M'.steps : Int) = n := by rw [hstp]; omega
                have a4 : min ((k : Int) + 1) (n : Int) = n := by omega
                have a5 : (n : Int) ≤ (k : Int) + 1 := by omega
                clear hV hdn hstp hnk
                go_wp2_with (first | (go_at_call 22; refine (Down_any HDN.out).mono ?_; rw [a2]; rintro e w5 ⟨rfl, rfl⟩) | (go_at_call 23; refine (Steps_any HDN.out).mono ?_; rw [a3]; rintro e w5 ⟨rfl, rfl⟩))
                go_roundg (l.length - (i + 1))
                case measure => have := HG.out; omega
                case rel => exact ⟨i + 1, k + 1, M', by go_num, by go_num, by omega, by omega, rfl, HEN.out, HDN.out, HAN.out⟩
              · have a1 : (V == 24) = false := by rw [hV]; simpa using hnk
                have a2 : M'.down = false := by rw [hdn]; simpa using hnk
                have a3 : (M'.steps : Int) = (k : Int) + 1 := by rw [hstp]; omega
                have a4 : min ((k : Int) + 1) (n : Int) = (k : Int) + 1 := by omega
                have a5 : ¬ ((n : Int) ≤ (k : Int) + 1) := by omega
                clear hV hdn hstp hnk
                go_wp2_with (first | (go_at_call 22; refine (Down_any HDN.out).mono ?_; rw [a2]; rintro e w5 ⟨rfl, rfl⟩) | (go_at_call 23; refine (Steps_any HDN.out).mono ?_; rw [a3]; rintro e w5 ⟨rfl, rfl⟩))
                go_roundg (l.length - (i + 1))
                case measure => have := HG.out; omega
                case rel => exact ⟨i + 1, k + 1, M', by go_num, by go_num, by omega, by omega, rfl, HEN.out, HDN.out, HAN.out⟩
          by_cases c2 : kind = 2
          · subst c2
            have HKEY := Lib.hid (arms_of HX.out (HE2'.out.alloc (HE2'.out.size) _) HA.out (roomE_24 M name _) (app_pow M name _) (Append_any (HD2.out.ext ((Ext.refl w2').alloc (Nat.le_refl _) _)) HST.out HAR.out name _ [data] (parts_one (HDAT.out.ext HE2'.out)) (by simp) (by simp; omega) (by simp)))
            rw [HSZ2.out] at HKEY
            go_wp2_with fail
            rw [← HW2.out]
            go_wp2_with (go_at_call 18; refine HKEY.out.mono ?_; rintro e w4 ⟨V, M', rfl, hV, hdn, hstp, hAn, hDn, hEn⟩; have HAN := Lib.hid hAn; have HDN := Lib.hid hDn; have HEN := Lib.hid hEn; clear hAn hDn hEn)
            · skip
              clear HKEY
              by_cases hnk : n ≤ k + 1
              · have a1 : (V == 24) = true := by rw [hV]; simpa using hnk
                have a2 : M'.down = true := by rw [hdn]; simpa using hnk
                have a3 : (M'.steps : Int) = n := by rw [hstp]; omega
                have a4 : min ((k : Int) + 1) (n : Int) = n := by omega
                have a5 : (n : Int) ≤ (k : Int) + 1 := by omega
                clear hV hdn hstp hnk
                go_wp2_with (first | (go_at_call 22; refine (Down_any HDN.out).mono ?_; rw [a2]; rintro e w5 ⟨rfl, rfl⟩) | (go_at_call 23; refine (Steps_any HDN.out).mono ?_; rw [a3]; rintro e w5 ⟨rfl, rfl⟩))
                go_roundg (l.length - (i + 1))
                case measure => have := HG.out; omega
                case rel => exact ⟨i + 1, k + 1, M', by go_num, by go_num, by omega, by omega, rfl, HEN.out, HDN.out, HAN.out⟩
              · have a1 : (V == 24) = false := by rw [hV]; simpa using hnk
                have a2 : M'.down = false := by rw [hdn]; simpa using hnk
                have a3 : (M'.steps : Int) = (k : Int) + 1 := by rw [hstp]; omega
                have a4 : min ((k : Int) + 1) (n : Int) = (k : Int) + 1 := by omega
                have a5 : ¬ ((n : Int) ≤ (k : Int) + 1) := by omega
                clear hV hdn hstp hnk
                go_wp2_with (first | (go_at_call 22; refine (Down_any HDN.out).mono ?_; rw [a2]; rintro e w5 ⟨rfl, rfl⟩) | (go_at_call 23; refine (Steps_any HDN.out).mono ?_; rw [a3]; rintro e w5 ⟨rfl, rfl⟩))
                go_roundg (l.length - (i + 1))
                case measure => have := HG.out; omega
                case rel => exact ⟨i + 1, k + 1, M', by go_num, by go_num, by omega, by omega, rfl, HEN.out, HDN.out, HAN.out⟩
          by_cases c3 : kind = 3
          · subst c3
            have HKEY := Lib.hid (arms_of HX.out HE2'.out HA.out (thereE_24 M name) (cmd_pow _ (by rfl)) (Sync_any HD2.out HST.out HAR.out name))
            go_wp2_with fail
            rw [← HW2.out]
            go_wp2_with (go_at_call 19; refine HKEY.out.mono ?_; rintro e w4 ⟨V, M', rfl, hV, hdn, hstp, hAn, hDn, hEn⟩; have HAN := Lib.hid hAn; have HDN := Lib.hid hDn; have HEN := Lib.hid hEn; clear hAn hDn hEn)
            · skip
              clear HKEY
              by_cases hnk : n ≤ k + 1
              · have a1 : (V == 24) = true := by rw [hV]; simpa using hnk
                have a2 : M'.down = true := by rw [hdn]; simpa using hnk
                have a3 : (M'.steps : Int) = n := by rw [hstp]; omega
                have a4 : min ((k : Int) + 1) (n : Int) = n := by omega
                have a5 : (n : Int) ≤ (k : Int) + 1 := by omega
                clear hV hdn hstp hnk
                go_wp2_with (first | (go_at_call 22; refine (Down_any HDN.out).mono ?_; rw [a2]; rintro e w5 ⟨rfl, rfl⟩) | (go_at_call 23; refine (Steps_any HDN.out).mono ?_; rw [a3]; rintro e w5 ⟨rfl, rfl⟩))
                go_roundg (l.length - (i + 1))
                case measure => have := HG.out; omega
                case rel => exact ⟨i + 1, k + 1, M', by go_num, by go_num, by omega, by omega, rfl, HEN.out, HDN.out, HAN.out⟩
              · have a1 : (V == 24) = false := by rw [hV]; simpa using hnk
                have a2 : M'.down = false := by rw [hdn]; simpa using hnk
                have a3 : (M'.steps : Int) = (k : Int) + 1 := by rw [hstp]; omega
                have a4 : min ((k : Int) + 1) (n : Int) = (k : Int) + 1 := by omega
                have a5 : ¬ ((n : Int) ≤ (k : Int) + 1) := by omega
                clear hV hdn hstp hnk
                go_wp2_with (first | (go_at_call 22; refine (Down_any HDN.out).mono ?_; rw [a2]; rintro e w5 ⟨rfl, rfl⟩) | (go_at_call 23; refine (Steps_any HDN.out).mono ?_; rw [a3]; rintro e w5 ⟨rfl, rfl⟩))
                go_roundg (l.length - (i + 1))
                case measure => have := HG.out; omega
                case rel => exact ⟨i + 1, k + 1, M', by go_num, by go_num, by omega, by omega, rfl, HEN.out, HDN.out, HAN.out⟩
          by_cases c4 : kind = 4
          · subst c4
            have HKEY := Lib.hid (arms_of HX.out HE2'.out HA.out (thereE_24 M name) (cmd_pow _ (by rfl)) (Remove_any HD2.out HST.out HAR.out name))
            go_wp2_with fail
            rw [← HW2.out]
            go_wp2_with (go_at_call 20; refine HKEY.out.mono ?_; rintro e w4 ⟨V, M', rfl, hV, hdn, hstp, hAn, hDn, hEn⟩; have HAN := Lib.hid hAn; have HDN := Lib.hid hDn; have HEN := Lib.hid hEn; clear hAn hDn hEn)
            · skip
              clear HKEY
              by_cases hnk : n ≤ k + 1
              · have a1 : (V == 24) = true := by rw [hV]; simpa using hnk
                have a2 : M'.down = true := by rw [hdn]; simpa using hnk
                have a3 : (M'.steps : Int) = n := by rw [hstp]; omega
                have a4 : min ((k : Int) + 1) (n : Int) = n := by omega
                have a5 : (n : Int) ≤ (k : Int) + 1 := by omega
                clear hV hdn hstp hnk
                go_wp2_with (first | (go_at_call 22; refine (Down_any HDN.out).mono ?_; rw [a2]; rintro e w5 ⟨rfl, rfl⟩) | (go_at_call 23; refine (Steps_any HDN.out).mono ?_; rw [a3]; rintro e w5 ⟨rfl, rfl⟩))
                go_roundg (l.length - (i + 1))
                case measure => have := HG.out; omega
                case rel => exact ⟨i + 1, k + 1, M', by go_num, by go_num, by omega, by omega, rfl, HEN.out, HDN.out, HAN.out⟩
              · have a1 : (V == 24) = false := by rw [hV]; simpa using hnk
                have a2 : M'.down = false := by rw [hdn]; simpa using hnk
                have a3 : (M'.steps : Int) = (k : Int) + 1 := by rw [hstp]; omega
                have a4 : min ((k : Int) + 1) (n : Int) = (k : Int) + 1 := by omega
                have a5 : ¬ ((n : Int) ≤ (k : Int) + 1) := by omega
                clear hV hdn hstp hnk
                go_wp2_with (first | (go_at_call 22; refine (Down_any HDN.out).mono ?_; rw [a2]; rintro e w5 ⟨rfl, rfl⟩) | (go_at_call 23; refine (Steps_any HDN.out).mono ?_; rw [a3]; rintro e w5 ⟨rfl, rfl⟩))
                go_roundg (l.length - (i + 1))
                case measure => have := HG.out; omega
                case rel => exact ⟨i + 1, k + 1, M', by go_num, by go_num, by omega, by omega, rfl, HEN.out, HDN.out, HAN.out⟩
          by_cases c5 : kind = 5
          · subst c5
            have HKEY := Lib.hid (arms_of HX.out HE2'.out HA.out (renameE_24 M name to) (cmd_pow _ (rename_pow _ _ _)) (Rename_any HD2.out HST.out HAR.out name to HTO.out))
            go_wp2_with fail
            rw [← HW2.out]
            go_wp2_with (go_at_call 21; refine HKEY.out.mono ?_; rintro e w4 ⟨V, M', rfl, hV, hdn, hstp, hAn, hDn, hEn⟩; have HAN := Lib.hid hAn; have HDN := Lib.hid hDn; have HEN := Lib.hid hEn; clear hAn hDn hEn)
            · skip
              clear HKEY
              by_cases hnk : n ≤ k + 1
              · have a1 : (V == 24) = true := by rw [hV]; simpa using hnk
                have a2 : M'.down = true := by rw [hdn]; simpa using hnk
                have a3 : (M'.steps : Int) = n := by rw [hstp]; omega
                have a4 : min ((k : Int) + 1) (n : Int) = n := by omega
                have a5 : (n : Int) ≤ (k : Int) + 1 := by omega
                clear hV hdn hstp hnk
                go_wp2_with (first | (go_at_call 22; refine (Down_any HDN.out).mono ?_; rw [a2]; rintro e w5 ⟨rfl, rfl⟩) | (go_at_call 23; refine (Steps_any HDN.out).mono ?_; rw [a3]; rintro e w5 ⟨rfl, rfl⟩))
                go_roundg (l.length - (i + 1))
                case measure => have := HG.out; omega
                case rel => exact ⟨i + 1, k + 1, M', by go_num, by go_num, by omega, by omega, rfl, HEN.out, HDN.out, HAN.out⟩
              · have a1 : (V == 24) = false := by rw [hV]; simpa using hnk
                have a2 : M'.down = false := by rw [hdn]; simpa using hnk
                have a3 : (M'.steps : Int) = (k : Int) + 1 := by rw [hstp]; omega
                have a4 : min ((k : Int) + 1) (n : Int) = (k : Int) + 1 := by omega
                have a5 : ¬ ((n : Int) ≤ (k : Int) + 1) := by omega
                clear hV hdn hstp hnk
                go_wp2_with (first | (go_at_call 22; refine (Down_any HDN.out).mono ?_; rw [a2]; rintro e w5 ⟨rfl, rfl⟩) | (go_at_call 23; refine (Steps_any HDN.out).mono ?_; rw [a3]; rintro e w5 ⟨rfl, rfl⟩))
                go_roundg (l.length - (i + 1))
                case measure => have := HG.out; omega
                case rel => exact ⟨i + 1, k + 1, M', by go_num, by go_num, by omega, by omega, rfl, HEN.out, HDN.out, HAN.out⟩
          have z : (kind == 1) = false ∧ (kind == 2) = false ∧ (kind == 3) = false ∧ (kind == 4) = false ∧ (kind == 5) = false := by simp; omega
          obtain ⟨y1, y2, y3, y4, y5⟩ := z
          go_wp2_with fail
          rw [← HW2.out]
          go_wp2
          go_roundg (l.length - (i + 1))
          case measure => have := HG.out; omega
          case rel => exact ⟨i + 1, k, M, by go_num, by go_num, by omega, by omega, rfl, HX.out.trans HE2'.out, HD2.out.mono (fun k hk => ⟨hk.1, Nat.lt_of_lt_of_le hk.2 HE2'.out.size⟩) (fun k hk => hk.2), HA.out⟩
        · have HX := Lib.hid hext
          clear hext hD hA hg
          have hiN : i = l.length := by omega
          subst hiN
          go_wp2_with (go_at_call 8; refine (HW.out _).mono ?_; rintro e w5 ⟨rfl, he5⟩)
          go_ret
          exact ⟨rfl, HX.out.trans he5⟩
  · rw [hs] at HSM
    clear hs
    go_enter Try.func4, Try.ntmps4
    go_wp2_with (first | (go_at_call 14; refine HSM.out.mono ?_; rintro e w1 ⟨rfl, he1⟩) | (go_at_call 8; refine (HW.out _).mono ?_; rintro e w2 ⟨rfl, he2⟩))
    go_ret
    exact ⟨rfl, Ext.trans he1 he2⟩
end Go.Proofs.Ytjbalcfdenaneaa
