/- bytes.Clone and bytes.Join, in this work's words. -/
import Derived.Test.YtjbalcfdenaneaaMuApp
import Derived.Test.YtjbalcfdenaneaaShelf
namespace Go.Proofs.Ytjbalcfdenaneaa
open Go Go.RowKit Go.ChangeMaps Mu

theorem holds_of {w : World} {v : Value} {l : List UInt8} (h : BytesAt w v l) : Lib.HoldsBytes w v l := by
  rcases h with ⟨rfl, rfl⟩ | ⟨a, cap, rfl, h1, h2, h5⟩
  · exact ⟨none, 0, rfl, fun _ => rfl, fun a ha => by cases ha⟩
  · refine ⟨some a, cap, rfl, fun h => by (cases h), fun a' ha i x hx => ?_⟩
    cases ha
    obtain ⟨hi, rfl⟩ := List.getElem?_eq_some_iff.1 hx
    exact h5 i hi
theorem of_fresh {B : Nat} {w : World} {v : Value} {l : List UInt8} (h : Lib.FreshBytes B w v l) : BytesAt w v l ∧ ∀ g, v.ownBlock = some g → B ≤ g := by
  obtain ⟨g, cap, zs, rfl, hB, h1, h2, hz, hr, hb, hc, _⟩ := h
  refine ⟨?_, fun k hk => by simp [Value.ownBlock] at hk; omega⟩
  refine .inr ⟨⟨g, 0, none⟩, cap, rfl, h1, h2, fun i hi => ?_⟩
  have hadd : (⟨g, 0, none⟩ : Addr).add i = ⟨g, i, none⟩ := by unfold Addr.add; split <;> simp_all
  rw [hadd, hc i (by omega)]
  have hi2 : i < zs.length := by omega
  have e : l[i] = UInt8.ofNat (zs[i]).toNat := by
    have := congrArg (fun x => x[i]?) hb
    simp only [Lib.bytesOf, List.getElem?_map, List.getElem?_take, hi, if_true, List.getElem?_eq_getElem hi2, List.getElem?_eq_getElem hi, Option.map_some, Option.some.injEq] at this
    exact this.symm
  have hz2 := hr zs[i] (List.getElem_mem hi2)
  rw [e]
  have : zs.getD i 0 = zs[i] := by simp [List.getD, List.getElem?_eq_getElem hi2]
  rw [this]
  congr 2
  rw [UInt8.toNat_ofNat']; omega

theorem inter_nil : ∀ ls : List (List UInt8), List.intercalate [] ls = ls.flatten
  | [] => rfl
  | [a] => by simp [List.intercalate]
  | a :: b :: r => by
    have ih := inter_nil (b :: r)
    simp only [List.intercalate] at ih ⊢
    rw [List.intersperse_cons_cons, List.flatten_cons, List.flatten_cons, ih]; simp

/-- a row of slices of bytes -/
def PartsS (w : World) (pv : Value) (ls : List (List UInt8)) : Prop :=
  ∃ (b o c : Nat) (vs : List Value), pv = .slice (some ⟨b, o, none⟩) ls.length c ∧ ls.length ≤ c ∧ vs.length = ls.length ∧ (∀ (i : Nat) v, vs[i]? = some v → w.cell? ((⟨b, o, none⟩ : Addr).add i) = some v) ∧ ∀ (i : Nat) v l, vs[i]? = some v → ls[i]? = some l → BytesAt w v l

theorem PartsS.ext {w w' : World} {pv : Value} {ls : List (List UInt8)} (h : PartsS w pv ls) (he : Ext w w') : PartsS w' pv ls := by
  obtain ⟨b, o, c, vs, h1, h2, h3, h4, h5⟩ := h
  exact ⟨b, o, c, vs, h1, h2, h3, fun i v hv => by rw [he.cell (World.block_lt_of_cell? w _ (h4 i v hv))]; exact h4 i v hv, fun i v l h6 h7 => (h5 i v l h6 h7).ext he⟩

theorem Clone_any {w : World} {v : Value} {l : List UInt8} (h : BytesAt w v l) (hl : l.length ≤ 140737488355328) :
    Calls Try.prog 33 #[v] w fun e w' => ∃ v', e = .returned v' ∧ w'.ownsRow 0 5 1 v' l.length (encB l) ∧ (∀ g, v'.ownBlock = some g → w.heap.size ≤ g) ∧ Ext w w' := by
  rcases h with ⟨rfl, rfl⟩ | ⟨a, cap, rfl, h1, h2, h5⟩
  · exact (Try.bytes_Clone_nil 0 0 w).mono fun e w' ⟨he, hw⟩ => ⟨_, he, by subst hw; exact World.ownsRow_nil _ _ _ _, fun g hg => by simp [Value.ownBlock] at hg, by subst hw; exact Ext.refl _⟩
  · refine (Try.bytes_Clone_at a l.length cap (l.map fun c => (c.toNat : Int)) w (by simp) hl (fun i hi => ?_)).mono fun e w' ⟨v', he, ho, _, hb⟩ => ⟨v', he, ?_, fun g hg => (ho.lt g hg).1, hb⟩
    · rw [h5 i hi]; simp [List.getD, List.getElem?_map, List.getElem?_eq_getElem hi]
    · have e : (l.map fun c => (c.toNat : Int)).map (Value.int .u8) = encB l := by simp [encB]
      rw [e] at ho
      refine ⟨ho.1, ?_⟩
      rcases ho.2 with hn | ⟨g, cap, cur, h1, h2, h3⟩
      · exact .inl hn
      · exact .inr ⟨g, cap, cur, h1, Nat.zero_le _, h3⟩

theorem Join_any {w : World} {pv : Value} {ls : List (List UInt8)} (h : PartsS w pv ls) (h1 : 1 ≤ ls.length) (hl : ls.flatten.length ≤ 1000000000) (hn : ls.length ≤ 1000000000) :
    Calls Try.prog 39 #[pv, .slice none 0 0] w fun e w' => ∃ v', e = .returned v' ∧ BytesAt w' v' ls.flatten ∧ (∀ g, v'.ownBlock = some g → w.heap.size ≤ g) ∧ Ext w w' := by
  obtain ⟨b, o, c, vs, rfl, hc, hv, hcell, hb⟩ := h
  rcases Nat.lt_or_ge 1 ls.length with h2 | h2
  · have hlen : Lib.lens ls = ls.flatten.length := by simp [Lib.lens, List.length_flatten]
    have hj : Lib.join ls [] = ls.flatten := inter_nil ls
    refine (Try.bytes_Join_many b o ls.length c vs ls (.slice none 0 0) [] w rfl h2 ⟨hv, hcell, fun i v l h1 h2 => holds_of (hb i v l h1 h2)⟩ hc (holds_of (.inl ⟨rfl, rfl⟩)) (by omega) (by rw [hlen]; simp only [List.length_nil, Nat.zero_mul, Nat.add_zero]; omega)).mono ?_
    rintro e w' ⟨v', rfl, hf, hbel⟩
    rw [hj] at hf
    obtain ⟨f1, f2⟩ := of_fresh hf
    exact ⟨v', rfl, f1, f2, hbel⟩
  · have he : ls.length = 1 := by omega
    obtain ⟨l, rfl⟩ : ∃ l, ls = [l] := List.length_eq_one_iff.1 he
    obtain ⟨v, rfl⟩ : ∃ v, vs = [v] := List.length_eq_one_iff.1 (by rw [hv]; rfl)
    have hc0 : w.cell? ⟨b, o, none⟩ = some v := hcell 0 v rfl
    have hb0 := hb 0 v l rfl rfl
    simp only [List.flatten_cons, List.flatten_nil, List.append_nil] at hl ⊢
    by_cases h0 : l.length = 0
    · have hl0 : l = [] := List.length_eq_zero_iff.1 h0
      subst hl0
      obtain ⟨p0, c0, hv0⟩ : ∃ p0 c0, v = .slice p0 0 c0 := by
        rcases hb0 with ⟨rfl, _⟩ | ⟨a, cap, rfl, _⟩
        · exact ⟨_, _, rfl⟩
        · exact ⟨_, _, rfl⟩
      subst hv0
      refine (Try.bytes_Join_one_empty b o c p0 c0 (.slice none 0 0) w hc0).mono ?_
      rintro e w' ⟨rfl, rfl⟩
      exact ⟨_, rfl, .inl ⟨rfl, rfl⟩, fun g hg => by simp [Value.ownBlock] at hg, Ext.refl _⟩
    · rcases hb0 with ⟨rfl, rfl⟩ | ⟨a, cap, rfl, q1, q2, q5⟩
      · exact absurd rfl h0
      · refine (Try.bytes_Join_one b o c a cap l (.slice none 0 0) w hc0 (fun i x hx => ?_) (by omega) (by omega)).mono ?_
        · obtain ⟨hi, rfl⟩ := List.getElem?_eq_some_iff.1 hx
          exact q5 i hi
        · rintro e w' ⟨v', rfl, hf, hbel⟩
          obtain ⟨f1, f2⟩ := of_fresh hf
          exact ⟨v', rfl, f1, f2, hbel⟩
end Go.Proofs.Ytjbalcfdenaneaa
