/- Reading arguments: bytes. -/
import Derived.ChangeSlices
import Derived.Test.YtjbalcfdenaneaaMuRead
namespace Go.Proofs.Ytjbalcfdenaneaa.Mu
open Go Go.Deep Go.ChangeShapes Go.WideShapes
section
variable {H : Type} {enc : TypeId × Value → H} {P : Program} {w : World} {base : Nat} {spare : Nat → Bool} {held : Bool}
theorem read_bytes {t e : TypeId} {fuel : Nat} {v : Value} {x : DataW H × List MemPlace} (ht : P.underlying t = some (.slice e)) (he : P.underlying e = some (.int .u8)) (hc : P.cellsOf e = 1)
    (h : DataW.trod enc P w base spare held fuel t [v] = some x) : ∃ l, BytesAt w v l := by
  rcases open_ints ht he hc h with ⟨hcs, _⟩ | ⟨a, len, cap, zs, hcs, _, hl, hm, hz, _, hcell, hwz⟩
  · exact ⟨[], .inl ⟨by simpa using hcs, rfl⟩⟩
  · have hv : v = .slice (some a) len cap := by simpa using hcs
    subst hv
    have hlz : len ≤ zs.length := by rw [hz]; split <;> omega
    have hlen : ((zs.take len).map (fun n => UInt8.ofNat n.toNat)).length = len := by simp; omega
    refine ⟨(zs.take len).map (fun n => UInt8.ofNat n.toNat), .inr ⟨a, cap, by rw [hlen], by rw [hlen]; exact hl, hm, fun i hi => ?_⟩⟩
    rw [hlen] at hi
    rw [hcell i (by omega)]
    have hi2 : i < zs.length := by omega
    have hw := hwz zs[i] (List.getElem_mem hi2)
    have hr : 0 ≤ zs[i] ∧ zs[i] ≤ 255 := by
      simp only [Lit.wf, Bool.and_eq_true, decide_eq_true_eq, show IntKind.u8.min = 0 from rfl, show IntKind.u8.max = 255 from rfl] at hw
      omega
    have e1 : zs.getD i 0 = zs[i] := by simp [List.getD, List.getElem?_eq_getElem hi2]
    rw [e1]
    simp only [List.getElem_map, List.getElem_take, UInt8.toNat_ofNat']
    congr 2
    omega
end
end Go.Proofs.Ytjbalcfdenaneaa.Mu
