/- Reading arguments: slices of structs whose fields are of one cell each. -/
import Derived.Deep.Slices
import Derived.ChangeSame
import Derived.Test.YtjbalcfdenaneaaMuBase
namespace Go.Proofs.Ytjbalcfdenaneaa.Mu
open Go Go.Deep Go.ChangeShapes Go.WideShapes
section
variable {H : Type} {enc : TypeId × Value → H} {P : Program} {w : World} {base : Nat} {spare : Nat → Bool} {held : Bool}

/-- a slice of structs of m one-cell fields: each cell is there, and reads by its field's type -/
theorem open_rows {t e m : Nat} {F : Array Field} {fuel : Nat} {cs : List Value} {x : DataW H × List MemPlace} (ht : P.underlying t = some (.slice e)) (he : P.underlying e = some (.struct F)) (hm : F.size = m) (ce : P.cellsOf e = m)
    (hof : ∀ (j : Nat) f, F[j]? = some f → f.offset = j ∧ P.cellsOf f.type = 1) (h : DataW.trod enc P w base spare held fuel t cs = some x) :
    cs = [.slice none 0 0] ∨ ∃ (a : Addr) (len cap k : Nat), cs = [.slice (some a) len cap] ∧ len ≤ cap ∧ cap ≤ maxLen ∧
      ∀ i, i < len → ∀ (j : Nat) f, F[j]? = some f → ∃ v y, w.cell? (a.add (i * m + j)) = some v ∧ DataW.trod enc P w base spare held k f.type [v] = some y := by
  rcases open_slice ht h with ⟨h0, _⟩ | ⟨a, len, cap, mm, n, D, Pl, rfl, hb, hl, hmx, hmm, rfl, hx⟩
  · exact .inl h0
  · refine .inr ⟨a, len, cap, n - 1, rfl, hl, hmx, fun i hi j f hj => ?_⟩
    have hlm : len ≤ mm := by rw [hmm]; split <;> omega
    obtain ⟨cs', h1, h2⟩ := hx i (by omega)
    rw [ce] at h1
    obtain ⟨_, hlen, hcell⟩ := World.cells?_some h1
    obtain ⟨xs, k, hk, hxy, _, hxl, hf⟩ := DataW.trod_struct he h2
    have hk' : k = n - 1 := by omega
    subst hk'
    have hjl : j < F.size := (Array.getElem?_eq_some_iff.1 hj).1
    have g := hf j f hj
    obtain ⟨o1, o2⟩ := hof j f hj
    have hjc : j < cs'.length := by omega
    rw [o1, o2] at g
    have ht1 : (cs'.drop j).take 1 = [cs'[j]] := by
      rw [List.drop_eq_getElem_cons hjc]; rfl
    rw [ht1] at g
    have hjx : j < xs.length := by omega
    refine ⟨cs'[j], xs[j], ?_, by rw [g]; exact List.getElem?_eq_getElem hjx⟩
    have := hcell j (by omega)
    rw [add_add, List.getElem?_eq_getElem hjc] at this
    exact this
end
end Go.Proofs.Ytjbalcfdenaneaa.Mu
