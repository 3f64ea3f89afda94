/- Walks: the power, and a command. -/
import Derived.Test.YtjbalcfdenaneaaDkA
namespace Go.Proofs.Ytjbalcfdenaneaa
open Go Go.RowKit Go.ChangeMaps Mu
set_option maxRecDepth 100000
attribute [local go_sem] drew_heap

def DM.go (M : DM) : DM := { M with steps := M.steps + 1, armed := M.armed - 1, down := decide (M.armed = 1) || (M.down && decide (M.armed = 0)) }

theorem DiskR.setBlk {w w' : World} {F : Nat → Prop} {b m : Nat} {mo : Obj} {fs : List FRec} {M M' : DM} (h : DiskR w F b m mo fs M) (hb : w'.heap[b]? = some (diskO M' m)) (hk : Keeps (fun k => k = b) w w') (h1 : M'.files = M.files) (h2 : M'.cap = M.cap) : DiskR w' F b m mo fs M' := by
  have hall : ∀ k ∈ m :: fs.flatMap FRec.foot, w'.heap[k]? = w.heap[k]? := fun k hk' => hk.block k (h.lt k (List.mem_cons_of_mem _ hk')) (fun e => by
    subst e; exact (List.nodup_cons.1 h.apart).1 hk')
  refine ⟨hb, (hall m (by simp)).trans h.map, h.at_, fun x hx => ?_, h.apart, h.foot, by rw [h1]; exact h.files, ⟨by rw [h2]; exact h.ok.cap, by rw [h1]; exact h.ok.used, by rw [h1]; exact h.ok.many, by rw [h1]; exact h.ok.syn, by rw [h1]; exact h.ok.names⟩, fun k hk' => Nat.lt_of_lt_of_le (h.lim k hk') hk.size⟩
  have hsub : ∀ k ∈ x.foot, k ∈ m :: fs.flatMap FRec.foot := fun k hk => by
    simp only [List.mem_cons, List.mem_flatMap]; exact .inr ⟨x, hx, hk⟩
  exact ⟨(hall x.blk (hsub _ (by simp [FRec.foot]))).trans (h.file x hx).1, owns_move (h.file x hx).2 (fun k hk => hall k (hsub _ (by simp [FRec.foot, hk])))⟩

theorem goes_fin0 {w : World} {F : Nat → Prop} {b m : Nat} {mo : Obj} {fs : List FRec} {M : DM} (h : DiskR w F b m mo fs M) (h0 : M.armed = 0) :
    DiskR (w.setCell ⟨b, 1, none⟩ (.int .i64 (M.steps + 1))) F b m mo fs M.go ∧ Keeps (fun k => k = b) w (w.setCell ⟨b, 1, none⟩ (.int .i64 (M.steps + 1))) := by
  have hk : Keeps (fun k => k = b) w (w.setCell ⟨b, 1, none⟩ (.int .i64 (M.steps + 1))) := (Keeps.refl (fun k => k = b) w).setCell (.inl rfl) _
  have hb := get_setCell (i := 1) (.int .i64 (M.steps + 1)) h.blk
  exact ⟨h.setBlk (by rw [hb]; simp [DM.go, diskO, h0]) hk rfl rfl, hk⟩
theorem goes_fin {w : World} {F : Nat → Prop} {b m : Nat} {mo : Obj} {fs : List FRec} {M : DM} (h : DiskR w F b m mo fs M) (h0 : 0 < M.armed) :
    DiskR (((w.setCell ⟨b, 1, none⟩ (.int .i64 (M.steps + 1))).setCell ⟨b, 0, none⟩ (.int .i64 (M.armed - 1))).setCell ⟨b, 2, none⟩ (.bool ((M.armed : Int) - 1 == 0))) F b m mo fs M.go ∧
    Keeps (fun k => k = b) w (((w.setCell ⟨b, 1, none⟩ (.int .i64 (M.steps + 1))).setCell ⟨b, 0, none⟩ (.int .i64 (M.armed - 1))).setCell ⟨b, 2, none⟩ (.bool ((M.armed : Int) - 1 == 0))) := by
  have hk : Keeps (fun k => k = b) w (((w.setCell ⟨b, 1, none⟩ (.int .i64 (M.steps + 1))).setCell ⟨b, 0, none⟩ (.int .i64 (M.armed - 1))).setCell ⟨b, 2, none⟩ (.bool ((M.armed : Int) - 1 == 0))) :=
    (((Keeps.refl (fun k => k = b) w).setCell (.inl rfl) _).setCell (.inl rfl) _).setCell (.inl rfl) _
  have hb := get_setCell (i := 2) (.bool ((M.armed : Int) - 1 == 0)) (get_setCell (i := 0) (.int .i64 (M.armed - 1)) (get_setCell (i := 1) (.int .i64 (M.steps + 1)) h.blk))
  refine ⟨h.setBlk ?_ hk rfl rfl, hk⟩
  rw [hb]
  have h1 : ((M.armed : Int) - 1 == 0) = decide (M.armed = 1) := by rw [Bool.eq_iff_iff]; simp; omega
  have h2 : ((M.armed - 1 : Nat) : Int) = (M.armed : Int) - 1 := by omega
  have h3 : decide (M.armed = 0) = false := by simp; omega
  simp [DM.go, diskO, h1, h2, h3]

theorem goes_any {w : World} {F : Nat → Prop} {b m : Nat} {mo : Obj} {fs : List FRec} {M : DM} (h : DiskR w F b m mo fs M) (hst : M.steps ≤ 1000000000) (ha : M.armed ≤ 9223372036854775807) :
    Calls Try.prog 55 #[.pointer (some ⟨b, 0, none⟩)] w fun e w' => e = .returned (.bool (decide (M.armed = 1))) ∧ DiskR w' F b m mo fs M.go ∧ Keeps (fun k => k = b) w w' := by
  have H := Lib.hid h
  obtain ⟨c0, c1, c2, _, _⟩ := h.cells
  have f0 := free_of h.blk 0; have f1 := free_of h.blk 1; have f2 := free_of h.blk 2
  clear h
  rcases Nat.lt_or_ge 0 M.armed with h0 | h0
  · have hb : ((M.armed : Int) == 0) = false := by simp; omega
    have H1 := Lib.hid (goes_fin H.out h0)
    have H2 := Lib.hid (show ((M.armed : Int) - 1 == 0) = decide (M.armed = 1) by rw [Bool.eq_iff_iff]; simp; omega)
    clear h0
    go_enter Try.func55, Try.ntmps55
    go_wp2
    go_ret
    exact ⟨by show Ending.returned (.bool ((M.armed : Int) - 1 == 0)) = _; rw [H2.out], H1.out⟩
  · have h0 : M.armed = 0 := by omega
    have hd : decide (M.armed = 1) = false := by rw [h0]; rfl
    have H1 := Lib.hid (goes_fin0 H.out h0)
    rw [hd]
    rw [h0] at c0
    clear h0 ha hd
    go_enter Try.func55, Try.ntmps55
    go_wp2
    go_ret
    exact ⟨rfl, H1.out⟩

/-- a function value that may be called -/
def Ent (k : FuncId) : Prop := ∃ fn, Try.prog.funcs[k]? = some fn ∧ (fn.name == "runtime.NumGoroutine") = false ∧ fn.body.isNone = false

theorem Ent.run {k : FuncId} (h : Ent k) (c : Array Value) (w : World) : (callFunc k c).run Try.prog w = .ok (.enter k c) w := by
  obtain ⟨fn, h1, h2, h3⟩ := h
  have h2' : ¬ fn.name = "runtime.NumGoroutine" := by simpa using h2
  have h3' : ¬ fn.body = none := by intro h; rw [h] at h3; cases h3
  simp [callFunc, program, Sem.run, Sem.run_bind, Result.andThen, h1, h2', h3']

def cmdE (M : DM) (x : Int) : Int := if M.down = true ∨ M.armed = 1 then 24 else x
/-- what a command leaves: M3 if it was done -/
def DM.cmd (M M3 : DM) (x : Int) : DM := if M.down = true then M else if x = 0 ∧ M.armed ≠ 1 then M3 else M.go
/-- a command: e asks, do does -/
theorem command_any {w : World} {F : Nat → Prop} {b : Nat} {M M3 : DM} (h : Disk w F b M) (hst : M.steps ≤ 1000000000) (ha : M.armed ≤ 9223372036854775807)
    (ke kd : FuncId) (ce cd : Array Value) (x : Int) (ne : Ent ke) (nd : Ent kd)
    (he : M.down = false → Calls Try.prog ke ce w fun e w' => e = .returned (.int .i64 x) ∧ Ext w w')
    (hd : M.down = false → x = 0 → M.armed ≠ 1 → ∀ w2, Disk w2 F b M.go → Keeps F w w2 → Calls Try.prog kd cd w2 fun e w' => e = .returned (.tuple #[]) ∧ Disk w' (grow F w w') b M3 ∧ Keeps F w2 w') :
    Calls Try.prog 36 #[.pointer (some ⟨b, 0, none⟩), .func (.func ke) #[] ce, .func (.func kd) #[] cd] w fun e w' => e = .returned (.int .i64 (cmdE M x)) ∧
      Disk w' (grow F w w') b (M.cmd M3 x) ∧ Keeps F w w' := by
  obtain ⟨m, mo, fs, h⟩ := h
  have hke := ne.run ce; have hkd := nd.run cd
  have H := Lib.hid h
  obtain ⟨_, _, c2, _, _⟩ := h.cells
  clear h
  rcases Bool.eq_false_or_eq_true M.down with hdn | hdn
  · have e1 : cmdE M x = 24 := by simp [cmdE, hdn]
    have e2 : M.cmd M3 x = M := by simp [DM.cmd, hdn]
    rw [e1, e2]
    rw [hdn] at c2
    clear he hd hdn e1 e2
    go_enter Try.func36, Try.ntmps36
    go_wp2
    go_ret
    exact ⟨rfl, ⟨m, mo, fs, H.out.move (fun _ _ _ => rfl) (fun _ h => .inl h) (grow_lim H.out.lim (Nat.le_refl _))⟩, Keeps.refl _ _⟩
  · have he := he hdn
    have hd := hd hdn
    have e2 : M.cmd M3 x = if x = 0 ∧ M.armed ≠ 1 then M3 else M.go := by simp [DM.cmd, hdn]
    rw [e2]
    have e1 : cmdE M x = if M.armed = 1 then 24 else x := by simp [cmdE, hdn]
    rw [e1]
    rw [hdn] at c2
    clear hdn e1 e2
    have HE := Lib.hid he; have HDO := Lib.hid hd
    clear he hd
    have HA := Lib.hid ha; have HS := Lib.hid hst
    clear ha hst
    have hFb : F b := H.out.foot b (by simp)
    -- behind 'goes'
    have after : ∀ w1 w2, Ext w w1 → DiskR w2 F b m mo fs M.go → Keeps (fun k => k = b) w1 w2 → Keeps F w w2 ∧ Disk w2 (grow F w w2) b M.go := fun w1 w2 k1 k2 k3 =>
      ⟨(Keeps.of_ext k1).trans k3 (fun k _ e => by rw [e]; exact hFb), m, mo, fs, k2.move (fun _ _ _ => rfl) (fun _ h => .inl h) (grow_lim H.out.lim (Nat.le_trans k1.size k3.size))⟩
    have AF := Lib.hid after
    clear after
    by_cases h1 : M.armed = 1
    · rw [if_pos h1, if_neg (fun h => h.2 h1)]
      have h1' : decide (M.armed = 1) = true := by simpa using h1
      clear h1 hkd
      go_enter Try.func36, Try.ntmps36
      go_wp2_with fail
      refine HE.out.mono ?_
      rintro e w1 ⟨rfl, hext⟩
      go_wp2_with fail
      refine (goes_any (H.out.ext' hext) HS.out HA.out).mono ?_
      rw [h1']
      rintro e w2 ⟨rfl, hR, hK⟩
      go_wp2_with fail
      go_ret
      exact ⟨rfl, (AF.out w1 w2 hext hR hK).2, (AF.out w1 w2 hext hR hK).1⟩
    · have h1' : decide (M.armed = 1) = false := by simpa using h1
      rw [if_neg h1]
      by_cases hx : x = 0
      · subst hx
        rw [if_pos ⟨rfl, h1⟩]
        have HD2 := Lib.hid (HDO.out rfl h1)
        clear h1 HDO
        go_enter Try.func36, Try.ntmps36
        go_wp2_with fail
        refine HE.out.mono ?_
        rintro e w1 ⟨rfl, hext⟩
        go_wp2_with fail
        refine (goes_any (H.out.ext' hext) HS.out HA.out).mono ?_
        rw [h1']
        rintro e w2 ⟨rfl, hR, hK⟩
        have HW := Lib.hid (AF.out w1 w2 hext hR hK)
        have hR2 := Lib.hid hR
        clear hR hK
        go_wp2_with fail
        refine (HD2.out w2 ⟨m, mo, fs, hR2.out⟩ HW.out.1).mono ?_
        rintro e w3 ⟨rfl, hD3, hK3⟩
        go_wp2_with fail
        go_ret
        exact ⟨rfl, hD3, HW.out.1.trans hK3 (fun _ _ h => h)⟩
      · rw [if_neg (fun h => hx h.1)]
        have hx' : (x == 0) = false := by simpa using hx
        clear h1 HDO hx hkd
        go_enter Try.func36, Try.ntmps36
        go_wp2_with fail
        refine HE.out.mono ?_
        rintro e w1 ⟨rfl, hext⟩
        go_wp2_with fail
        refine (goes_any (H.out.ext' hext) HS.out HA.out).mono ?_
        rw [h1']
        rintro e w2 ⟨rfl, hR, hK⟩
        go_wp2_with fail
        go_ret
        exact ⟨rfl, (AF.out w1 w2 hext hR hK).2, (AF.out w1 w2 hext hR hK).1⟩
end Go.Proofs.Ytjbalcfdenaneaa
