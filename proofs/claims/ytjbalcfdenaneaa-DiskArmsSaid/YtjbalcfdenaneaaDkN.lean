/- Walks: a file's name. -/
import Derived.Test.YtjbalcfdenaneaaDkB
namespace Go.Proofs.Ytjbalcfdenaneaa
open Go Go.RowKit Go.ChangeMaps Mu
set_option maxRecDepth 100000
attribute [local go_sem] drew_heap

def plainI (c : Int) : Bool := (decide (97 ≤ c) && decide (c ≤ 122)) || (decide (48 ≤ c) && decide (c ≤ 57)) || c == 46 || c == 45 || c == 95
theorem plain_any (c : Int) (w : World) : Calls Try.prog 54 #[.int .i32 c] w fun e w' => e = .returned (.bool (plainI c)) ∧ w = w' := by
  by_cases h1 : 97 ≤ c <;> by_cases h2 : c ≤ 122 <;> by_cases h3 : 48 ≤ c <;> by_cases h4 : c ≤ 57 <;> by_cases h5 : c = 46 <;> by_cases h6 : c = 45 <;> first
    | (exfalso; omega)
    | (go_enter Try.func54, Try.ntmps54
       go_wp2
       go_ret
       exact ⟨congrArg (fun b => Ending.returned (.bool b)) (by unfold plainI; rw [Bool.eq_iff_iff]; simp <;> omega), rfl⟩)

/-- a byte that a name may have -/
def okc (c : UInt8) : Bool := plainI c.toNat
def okName (s : ByteArray) : Bool := s.data.toList.all okc && (decide (1 ≤ s.size) && decide (s.size ≤ 64))

theorem decode_far (s : ByteArray) (i : Nat) (h : i < s.size) (hb : 128 ≤ (s[i]'h).toNat) : 128 ≤ (Utf8.decode s i).1 ∧ (Utf8.decode s i).1 < 2097152 := by
  have e : s.get! (i + 0) = s[i]'h := by
    show s.get! i = _
    simp [ByteArray.get!, getElem!_pos, h]
    rfl
  have hlt : (s[i]'h).toNat < 256 := (s[i]'h).toNat_lt
  unfold Utf8.decode
  simp only [e]
  rw [if_neg (by omega)]
  unfold Utf8.runeError
  split
  · split
    · simp only; omega
    · simp
  · split
    · split
      · rename_i h2 h3
        simp only [Bool.and_eq_true, decide_eq_true_eq] at h3
        simp only; omega
      · simp
    · split
      · split
        · rename_i h2 h3
          simp only [Bool.and_eq_true, decide_eq_true_eq] at h3
          simp only; omega
        · simp
      · simp

theorem run_next_str {P : Program} (w : World) (s : ByteArray) (pos : Nat) (ty : TypeId) (h : pos < s.size) :
    (Instr.next (.pointer (some ⟨w.heap.size, 0, none⟩)) true ty).run P (w.iter s pos) =
      .ok (.tuple #[.bool true, .int .i64 pos, .int .i32 (Utf8.decode s pos).1]) (w.iter s (pos + (Utf8.decode s pos).2)) := by
  simp only [Instr.next, getObj, setObj, Sem.run_bind, Sem.run, World.iter_heap, Result.andThen, h, if_true]
  simp [goInt, World.iter_set]

theorem Name_any (s : ByteArray) (w : World) (hs : s.size ≤ maxLen) :
    Calls Try.prog 31 #[.string s] w fun e w' => e = .returned (.bool (okName s)) ∧ Ext w w' := by
  unfold maxLen at hs
  go_enter Try.func31, Try.ntmps31
  go_wp2
  go_loopg [4] s.size (fun g _ wr => ∃ k : Nat, k ≤ s.size ∧ g = s.size - k ∧ wr = w.iter s k ∧ (s.data.toList.take k).all okc = true)
  case atStart => exact ⟨0, Nat.zero_le _, rfl, rfl, rfl⟩
  case round =>
    obtain ⟨k, hk, rfl, rfl, hall⟩ := hrel
    by_cases hlt : k < s.size
    · by_cases ha : (s[k]'hlt).toNat < 128
      · have hrun := run_next_ascii (P := Try.prog) w s k 0 hlt ha
        have hts : s.data.toList.take (k + 1) = s.data.toList.take k ++ [s[k]'hlt] := by
          rw [List.take_succ_eq_append_getElem (by simpa using hlt)]; rfl
        rcases Bool.eq_false_or_eq_true (okc (s[k]'hlt)) with hok | hok
        · have HT := Lib.hid (show (s.data.toList.take (k + 1)).all okc = true by rw [hts, List.all_append, hall]; simp [hok])
          have hp : plainI (s[k]'hlt).toNat = true := hok
          clear hall hts hok ha
          go_wp2_with (go_at_call 54; refine (plain_any _ _).mono ?_; rw [hp]; rintro e w' ⟨rfl, rfl⟩)
          go_roundg (s.size - (k + 1))
          case measure => omega
          case rel => exact ⟨k + 1, by omega, rfl, rfl, HT.out⟩
        · have HN := Lib.hid (show okName s = false by
            have hm : s[k]'hlt ∈ s.data.toList := Array.mem_toList_iff.2 (Array.getElem_mem (i := k) (by simpa using hlt))
            have : s.data.toList.all okc = false := by
              rw [Bool.eq_false_iff]; intro h; rw [List.all_eq_true.1 h _ hm] at hok; cases hok
            simp only [okName, this, Bool.false_and])
          have hp : plainI (s[k]'hlt).toNat = false := hok
          clear hall hts hok ha
          go_wp2_with (go_at_call 54; refine (plain_any _ _).mono ?_; rw [hp]; rintro e w' ⟨rfl, rfl⟩)
          go_ret
          exact ⟨by rw [HN.out]; rfl, (Ext.refl w).alloc (Nat.le_refl _) _⟩
      · have hrun := run_next_str (P := Try.prog) w s k 0 hlt
        have hd := decode_far s k hlt (by omega)
        have HN := Lib.hid (show okName s = false by
            have hm : s[k]'hlt ∈ s.data.toList := Array.mem_toList_iff.2 (Array.getElem_mem (i := k) (by simpa using hlt))
            have : s.data.toList.all okc = false := by
              rw [Bool.eq_false_iff]; intro h
              have := List.all_eq_true.1 h _ hm
              simp only [okc, plainI] at this; simp at this; omega
            simp only [okName, this, Bool.false_and])
        generalize Utf8.decode s k = dc at hrun hd
        have hp : plainI dc.1 = false := by unfold plainI; rw [Bool.eq_false_iff]; simp; omega
        clear hall hd ha
        go_wp2_with (go_at_call 54; refine (plain_any _ _).mono ?_; rw [hp]; rintro e w' ⟨rfl, rfl⟩)
        go_ret
        exact ⟨by rw [HN.out]; rfl, (Ext.refl w).alloc (Nat.le_refl _) _⟩
    · have hrun := run_next_end (P := Try.prog) w s k 0 hlt
      have he : k = s.size := by omega
      have HA := Lib.hid (show okName s = (decide (1 ≤ s.size) && decide (s.size ≤ 64)) by
        have e : s.data.toList.take k = s.data.toList := List.take_of_length_le (by rw [he]; simp)
        rw [e] at hall
        simp only [okName, hall, Bool.true_and])
      clear hall he
      by_cases h1 : s.size < 1
      · go_wp2
        go_ret
        exact ⟨congrArg (fun b => Ending.returned (.bool b)) (by rw [HA.out, Bool.eq_iff_iff]; simp <;> omega), (Ext.refl w).alloc (Nat.le_refl _) _⟩
      · go_wp2
        go_ret
        exact ⟨congrArg (fun b => Ending.returned (.bool b)) (by rw [HA.out, Bool.eq_iff_iff]; simp <;> omega), (Ext.refl w).alloc (Nat.le_refl _) _⟩
end Go.Proofs.Ytjbalcfdenaneaa
