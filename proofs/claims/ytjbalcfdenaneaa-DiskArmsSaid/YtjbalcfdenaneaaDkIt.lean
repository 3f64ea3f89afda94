/- slices.Sorted(maps.Keys(m)), at a map of strings. -/
import Derived.Test.YtjbalcfdenaneaaShIt
import Derived.Test.YtjbalcfdenaneaaDkRep
import Derived.Lib.Hide
namespace Go.Proofs.Ytjbalcfdenaneaa
open Go Go.RowKit Go.ChangeMaps Go.Maps Go.Sort Go.Shelf Mu
set_option maxRecDepth 100000

/-- names, rising -/
def rise (l : List ByteArray) : List (List UInt8) := (l.map (fun n => n.data.toList)).mergeSort (fun x y => decide (x ≤ y))

theorem keys_any (mb : Option Nat) (w : World) : Calls Try.prog 60 #[.map mb] w fun e w' => e = .returned (.func (.func 63) #[] #[.pointer (some ⟨w.heap.size, 0, none⟩)]) ∧ w' = w.alloc (.cells #[.map mb] 49) :=
  callsIn_wide.1 (AnyZ.keys_in Try.keysIt Fence.wide 5 trivial rfl mb w)

theorem keyOf_str {s : ByteArray} (h : s.size ≤ maxLen) : keyOf Try.prog 9 (.string s) = some (.string s.data.toList) := by
  have h' : s.data.size ≤ maxLen := h
  simp [keyOf, Try.underlying9, mapKey]; exact h

theorem sorted_any {w : World} {m : Nat} {mo : Obj} {l : List (ByteArray × Value)} (hm : w.heap[m]? = some mo) (h : MapAt Value.string mo l) (hs : ∀ p ∈ l, p.1.size ≤ 64) (hn : l.length ≤ 1024) :
    Calls Try.prog 59 #[.func (.func 63) #[] #[.pointer (some ⟨w.heap.size, 0, none⟩)]] (w.alloc (.cells #[.map (some m)] 49)) fun e w' => ∃ v, e = .returned v ∧
      w'.ownsRow (w.alloc (.cells #[.map (some m)] 49)).heap.size 9 1 v l.length ((rise (l.map (·.1))).map encStr) ∧ (v = .slice none 0 0 ↔ l = []) ∧ Ext (w.alloc (.cells #[.map (some m)] 49)) w' := by
  obtain ⟨es, clock, rfl, h1, h2, h3, h4⟩ := h
  have hsz : es.size = l.length := by have := congrArg List.length h1; simpa using this
  have hent : ∀ x ∈ es.toList, ∃ p ∈ l, x.key = .string p.1 := fun x hx => by
    have : (x.key, x.val) ∈ es.toList.map (fun e => (e.key, e.val)) := List.mem_map_of_mem (f := fun e : MapEntry => (e.key, e.val)) hx
    rw [h1] at this
    obtain ⟨p, hp, he⟩ := List.mem_map.1 this
    exact ⟨p, hp, (Prod.mk.injEq .. ▸ he).1.symm⟩
  let R : Value → Option (DataW Unit × List MemPlace) := fun _ => some (.lit (.bool true), [])
  have hrd : ∀ x ∈ es.toList, ∀ p ∈ l, x.key = .string p.1 → Go.WideElems.rd Try.prog 9 R x = some (.string p.1.data.toList, .lit (.bool true)) := fun x _ p hp hk => by
    have := hs p hp
    unfold Go.WideElems.rd
    rw [hk, keyOf_str (by unfold maxLen; omega)]
    rfl
  have hkeys : es.toList.map (·.key) = l.map (fun p => Value.string p.1) := by
    have := congrArg (List.map Prod.fst) h1
    simpa [List.map_map, Function.comp_def] using this
  have hown : w.ownsMap Try.prog 9 R m l.length (.map ((es.toList.map (Go.WideElems.rg Try.prog 9 R)).foldr DataW.insert [])) := by
    refine ⟨es, clock, hm, ⟨by rw [hsz]; unfold maxLen; omega, ⟨h3, h2, ?_⟩, fun x hx => ?_⟩, by omega, rfl⟩
    · rw [hkeys]
      exact List.pairwise_map.2 ((List.pairwise_map.1 h4).imp (fun hne he => hne (by simpa using he)))
    · obtain ⟨p, hp, hk⟩ := hent x hx
      exact ⟨_, hrd x hx p hp hk⟩
  have hbl := hown.lt
  have hsize : Maps.size (DataW.map ((es.toList.map (Go.WideElems.rg Try.prog 9 R)).foldr DataW.insert [])) = l.length := by
    show List.length _ = _
    rw [length_sorted]; simp [hsz]
  have hseq : SeqGives Fence.wide 2 Try.prog 63 #[.pointer (some ⟨w.heap.size, 0, none⟩)] encStr (fun ss => ss.Perm (strKeys (DataW.map ((es.toList.map (Go.WideElems.rg Try.prog 9 R)).foldr DataW.insert [])))) l.length (w.alloc (.cells #[.map (some m)] 49)) := by
    have := AnyZ.keys_gives (ρ := Try.keysIt_ren) { Try.keysIt with } Fence.wide 2 trivial rfl (by omega) w.heap.size m l.length (DataW.map ((es.toList.map (Go.WideElems.rg Try.prog 9 R)).foldr DataW.insert [])) (R := R) (w.alloc (.cells #[.map (some m)] 49)) (by simp) (by simp) (by
      obtain ⟨es, clock, hb, Ft, hs, hD⟩ := hown
      exact ⟨es, clock, (Below.heap_alloc _ _ m hbl).trans hb, Ft, hs, hD⟩)
    rw [hsize] at this
    exact this
  have hsort : AnyZ.SortsIn Try.prog Try.sortedIt_ren Fence.wide 4 :=
    ⟨fun blk off cap ss W hH hblk hsz => callsIn_wide.2 (AnyM.slices_Sort_string Try.sortIt blk off cap ss W hH hblk hsz),
     fun p cap W => callsIn_wide.2 (AnyM.slices_Sort_string_none Try.sortIt p cap W)⟩
  have main := AnyZ.sorted_in Try.sortedIt Fence.wide 5 trivial trivial trivial trivial rfl (by omega) hsort (enters_of Try.func62 (by kernel_rfl) rfl) 63 #[.pointer (some ⟨w.heap.size, 0, none⟩)] trivial (enters_of Try.func63 (by kernel_rfl) rfl) _ l.length (by unfold maxLen; omega) (by omega) _ hseq
  refine (callsIn_wide.1 main).mono ?_
  rintro e w' ⟨v, ss, rfl, hp, hrow, hnil, hb⟩
  have hper : (strKeys (DataW.map ((es.toList.map (Go.WideElems.rg Try.prog 9 R)).foldr DataW.insert []))).Perm (l.map (fun p => p.1.data.toList)) := by
    show (List.map (fun p : Lit × DataW Unit => strOf p.1) _).Perm _
    have hq := (Go.WideShapes.sorted_perm (es.toList.map (Go.WideElems.rg Try.prog 9 R))).map (fun p : Lit × DataW Unit => strOf p.1)
    refine hq.trans ?_
    have : List.map (fun p : Lit × DataW Unit => strOf p.1) (es.toList.map (Go.WideElems.rg Try.prog 9 R)) = (es.toList.map (·.key)).map (fun v => match v with | .string s => s.data.toList | _ => []) := by
      rw [List.map_map, List.map_map]
      refine List.map_congr_left fun x hx => ?_
      obtain ⟨p, hp, hk⟩ := hent x hx
      simp only [Function.comp, Go.WideElems.rg, hrd x hx p hp hk, hk]
      rfl
    rw [this, hkeys, List.map_map]
    exact List.Perm.refl _
  have hss : ss.length = l.length := by have := (hp.trans hper).length_eq; simpa using this
  have hrise : ss.mergeSort (fun x y => decide (x ≤ y)) = rise (l.map (·.1)) := by
    unfold rise
    rw [List.map_map]
    exact mergeSort_of_perm (hp.trans hper)
  rw [hss, hrise] at hrow
  exact ⟨v, rfl, hrow, hnil.trans ⟨fun e => by rw [e] at hss; exact List.length_eq_zero_iff.1 hss.symm, fun e => by rw [e] at hss; exact List.length_eq_zero_iff.1 hss⟩, hb⟩
end Go.Proofs.Ytjbalcfdenaneaa
