/- Reading the commands: what the row hands in is a row of commands. -/
import Derived.Test.YtjbalcfdenaneaaLwA
import Derived.Test.YtjbalcfdenaneaaMuReadB
namespace Go.Proofs.Ytjbalcfdenaneaa
open Go Go.RowKit Go.ChangeMaps Go.Deep Go.ChangeShapes Go.WideShapes Mu
set_option maxRecDepth 100000

theorem list_of {α : Type} {n : Nat} {p : Nat → α → Prop} (h : ∀ i, i < n → ∃ c, p i c) : ∃ l : List α, l.length = n ∧ ∀ i (hi : i < l.length), p i l[i] := by
  induction n with
  | zero => exact ⟨[], rfl, fun i hi => by simp at hi⟩
  | succ n ih =>
    obtain ⟨l, hl, hp⟩ := ih (fun i hi => h i (by omega))
    obtain ⟨c, hc⟩ := h n (by omega)
    refine ⟨l ++ [c], by simp [hl], fun i hi => ?_⟩
    rcases Nat.lt_or_ge i l.length with hlt | hge
    · rw [List.getElem_append_left hlt]; exact hp i hlt
    · have : i = l.length := by simp at hi; omega
      subst this
      rw [List.getElem_append_right (Nat.le_refl _)]
      simp [hl]; exact hc

section
variable {H : Type} {enc : TypeId × Value → H} {w : World} {base : Nat} {spare : Nat → Bool} {held : Bool}
theorem read_chs {fuel : Nat} {v : Value} {x : DataW H × List MemPlace} (h : DataW.trod enc Try.prog w base spare held fuel 52 [v] = some x) : ∃ l, ChoicesAt w v l ∧ chOk l := by
  rcases open_rows (m := 3) Try.underlying52 Try.underlying74 rfl (by kernel_rfl) (fun j f hj => by
      rcases j with _ | _ | _ | j
      · simp at hj; subst hj; exact ⟨rfl, by kernel_rfl⟩
      · simp at hj; subst hj; exact ⟨rfl, by kernel_rfl⟩
      · simp at hj; subst hj; exact ⟨rfl, by kernel_rfl⟩
      · simp at hj) h with h0 | ⟨a, len, cap, k, h0, hl, hm, hx⟩
  · exact ⟨[], .inl ⟨⟨none, 0, by simpa using h0⟩, rfl⟩, by intro c hc; simp at hc⟩
  · have hv : v = .slice (some a) len cap := by simpa using h0
    subst hv
    rcases Nat.eq_zero_or_pos len with hz | hpos
    · subst hz
      exact ⟨[], .inl ⟨⟨_, _, rfl⟩, rfl⟩, by intro c hc; simp at hc⟩
    · obtain ⟨g, o, rfl⟩ : ∃ g o, a = ⟨g, o, none⟩ := by
        obtain ⟨v, y, hc, _⟩ := hx 0 hpos 0 _ rfl
        have := World.cell?_spot hc
        obtain ⟨g, o, s⟩ := a
        simp [Addr.add] at this
        exact ⟨g, o, by rw [this]⟩
      have each : ∀ i, i < len → ∃ c : Ch, (c.1 ≤ 18446744073709551615 ∧ c.2.1 ≤ 18446744073709551615) ∧ w.cell? ⟨g, o + i * 3, none⟩ = some (.int .u64 c.1) ∧ w.cell? ⟨g, o + i * 3 + 1, none⟩ = some (.int .u64 c.2.1) ∧ w.cell? ⟨g, o + i * 3 + 2, none⟩ = some (.int .u8 c.2.2.toNat) := fun i hi => by
        obtain ⟨v0, y0, c0, t0⟩ := hx i hi 0 _ rfl
        obtain ⟨v1, y1, c1, t1⟩ := hx i hi 1 _ rfl
        obtain ⟨v2, y2, c2, t2⟩ := hx i hi 2 _ rfl
        obtain ⟨n0, e0, _, w0⟩ := DataW.trod_int Try.underlying72 t0
        obtain ⟨n1, e1, _, w1⟩ := DataW.trod_int Try.underlying72 t1
        obtain ⟨n2, e2, _, w2⟩ := DataW.trod_int Try.underlying5 t2
        simp at e0 e1 e2
        subst e0 e1 e2
        simp only [Lit.wf, Bool.and_eq_true, decide_eq_true_eq, show IntKind.u8.min = 0 from rfl, show IntKind.u8.max = 255 from rfl, show IntKind.u64.min = 0 from rfl, show IntKind.u64.max = 18446744073709551615 from rfl] at w0 w1 w2
        rw [add_plain] at c0 c1 c2
        refine ⟨(n0.toNat, n1.toNat, UInt8.ofNat n2.toNat), ⟨by simp only; omega, by simp only; omega⟩, ?_, ?_, ?_⟩
        · rw [show o + i * 3 = o + (i * 3 + 0) by omega, c0]; congr 2; simp only; omega
        · rw [show o + i * 3 + 1 = o + (i * 3 + 1) by omega, c1]; congr 2; simp only; omega
        · rw [show o + i * 3 + 2 = o + (i * 3 + 2) by omega, c2]; congr 2; simp only [UInt8.toNat_ofNat']; omega
      obtain ⟨l, hll, hp⟩ := list_of each
      subst hll
      refine ⟨l, .inr ⟨g, o, cap, rfl, hl, fun i hi => (hp i hi).2⟩, fun c hc => ?_⟩
      obtain ⟨i, hi, rfl⟩ := List.getElem_of_mem hc
      exact (hp i hi).1

theorem i64_of_wf {n : Int} (h : (Lit.int .i64 n).wf = true) : -9223372036854775808 ≤ n ∧ n ≤ 9223372036854775807 := by
  simp only [Lit.wf, Bool.and_eq_true, decide_eq_true_eq, show IntKind.i64.min = -9223372036854775808 from rfl, show IntKind.i64.max = 9223372036854775807 from rfl] at h
  exact h

theorem read_ops {fuel : Nat} {v : Value} {x : DataW H × List MemPlace} (h : DataW.trod enc Try.prog w base spare held fuel 43 [v] = some x) : ∃ l, OpsAt w v l := by
  rcases open_rows (m := 7) Try.underlying43 Try.underlying54 rfl (by kernel_rfl) (fun j f hj => by
      rcases j with _ | _ | _ | _ | _ | _ | _ | j
      · simp at hj; subst hj; exact ⟨rfl, by kernel_rfl⟩
      · simp at hj; subst hj; exact ⟨rfl, by kernel_rfl⟩
      · simp at hj; subst hj; exact ⟨rfl, by kernel_rfl⟩
      · simp at hj; subst hj; exact ⟨rfl, by kernel_rfl⟩
      · simp at hj; subst hj; exact ⟨rfl, by kernel_rfl⟩
      · simp at hj; subst hj; exact ⟨rfl, by kernel_rfl⟩
      · simp at hj; subst hj; exact ⟨rfl, by kernel_rfl⟩
      · simp at hj) h with h0 | ⟨a, len, cap, k, h0, hl, hm, hx⟩
  · exact ⟨[], by simp, Nat.zero_le _, .inl ⟨⟨none, 0, by simpa using h0⟩, rfl⟩⟩
  · have hv : v = .slice (some a) len cap := by simpa using h0
    subst hv
    rcases Nat.eq_zero_or_pos len with hz | hpos
    · subst hz
      exact ⟨[], by simp, Nat.zero_le _, .inl ⟨⟨_, _, rfl⟩, rfl⟩⟩
    · obtain ⟨g, o, rfl⟩ : ∃ g o, a = ⟨g, o, none⟩ := by
        obtain ⟨v, y, hc, _⟩ := hx 0 hpos 0 _ rfl
        have := World.cell?_spot hc
        obtain ⟨g, o, s⟩ := a
        simp [Addr.add] at this
        exact ⟨g, o, by rw [this]⟩
      have each : ∀ i, i < len → ∃ r : OpR, r.Ok w ∧ ∀ j (hj : j < 7), w.cell? ⟨g, o + i * 7 + j, none⟩ = some (r.cells[j]'(by simpa [OpR.cells] using hj)) := fun i hi => by
        obtain ⟨v0, y0, c0, t0⟩ := hx i hi 0 _ rfl
        obtain ⟨v1, y1, c1, t1⟩ := hx i hi 1 _ rfl
        obtain ⟨v2, y2, c2, t2⟩ := hx i hi 2 _ rfl
        obtain ⟨v3, y3, c3, t3⟩ := hx i hi 3 _ rfl
        obtain ⟨v4, y4, c4, t4⟩ := hx i hi 4 _ rfl
        obtain ⟨v5, y5, c5, t5⟩ := hx i hi 5 _ rfl
        obtain ⟨v6, y6, c6, t6⟩ := hx i hi 6 _ rfl
        obtain ⟨n0, e0, _, w0⟩ := DataW.trod_int Try.underlying3 t0
        obtain ⟨n1, e1, _, w1⟩ := DataW.trod_string Try.underlying9 t1
        obtain ⟨n2, e2, _, w2⟩ := DataW.trod_string Try.underlying9 t2
        obtain ⟨l3, w3⟩ := read_bytes Try.underlying27 Try.underlying5 (by kernel_rfl) t3
        obtain ⟨l4, w4⟩ := read_bytes Try.underlying27 Try.underlying5 (by kernel_rfl) t4
        obtain ⟨n5, e5, _, w5⟩ := DataW.trod_int Try.underlying3 t5
        obtain ⟨l6, w6, w7⟩ := read_chs t6
        simp at e0 e1 e2 e5
        subst e0 e1 e2 e5
        rw [add_plain] at c0 c1 c2 c3 c4 c5 c6
        refine ⟨⟨⟨n0, n1, n2, l3, l4, n5, l6⟩, v3, v4, v6⟩, ⟨w3, w4, w6, w1, w2, (i64_of_wf w5).2, w7⟩, fun j hj => ?_⟩
        rw [Nat.add_assoc]
        rcases j with _ | _ | _ | _ | _ | _ | _ | j
        · exact c0
        · exact c1
        · exact c2
        · exact c3
        · exact c4
        · exact c5
        · exact c6
        · omega
      obtain ⟨l, hll, hp⟩ := list_of each
      subst hll
      refine ⟨l, fun r hr => ?_, by omega, .inr ⟨g, o, cap, rfl, hl, fun i hi => (hp i hi).2⟩⟩
      obtain ⟨i, hi, rfl⟩ := List.getElem_of_mem hr
      exact (hp i hi).1
end
end Go.Proofs.Ytjbalcfdenaneaa
