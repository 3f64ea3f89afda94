/- The commands of law03 in memory; small. -/
import Derived.Test.YtjbalcfdenaneaaDkM
namespace Go.Proofs.Ytjbalcfdenaneaa
open Go Go.RowKit Go.ChangeMaps Mu
set_option maxRecDepth 100000
set_option maxHeartbeats 1000000
attribute [local go_sem] drew_heap get_alloc

structure OpM where
  kind : Int
  name : ByteArray
  to : ByteArray
  data : List UInt8
  more : List UInt8
  n : Int
  ch : List Ch
/-- a command, its cells -/
structure OpR where
  o : OpM
  vd : Value
  vm : Value
  vc : Value
def OpR.cells (r : OpR) : Array Value := #[.int .i64 r.o.kind, .string r.o.name, .string r.o.to, r.vd, r.vm, .int .i64 r.o.n, r.vc]
structure OpR.Ok (w : World) (r : OpR) : Prop where
  data : BytesAt w r.vd r.o.data
  more : BytesAt w r.vm r.o.more
  ch : ChoicesAt w r.vc r.o.ch
  name : r.o.name.size ≤ maxLen
  to : r.o.to.size ≤ maxLen
  n : r.o.n ≤ 9223372036854775807
  chs : chOk r.o.ch
def OpsAt (w : World) (v : Value) (l : List OpR) : Prop :=
  (∀ r ∈ l, r.Ok w) ∧ l.length ≤ maxLen ∧ (((∃ a c, v = .slice a 0 c) ∧ l = []) ∨ ∃ g o c, v = .slice (some ⟨g, o, none⟩) l.length c ∧ l.length ≤ c ∧ ∀ i (h : i < l.length), ∀ j (hj : j < 7), w.cell? ⟨g, o + i * 7 + j, none⟩ = some (l[i].cells[j]'(by simpa [OpR.cells] using hj)))

theorem ChoicesAt.ext {w w' : World} {v : Value} {l : List Ch} (h : ChoicesAt w v l) (he : Ext w w') : ChoicesAt w' v l := by
  rcases h with h | ⟨g, o, c, h1, h2, h3⟩
  · exact .inl h
  · refine .inr ⟨g, o, c, h1, h2, fun i hi => ?_⟩
    obtain ⟨a, b, d⟩ := h3 i hi
    exact ⟨by rw [he.cell (World.block_lt_of_cell? w _ a)]; exact a, by rw [he.cell (World.block_lt_of_cell? w _ b)]; exact b, by rw [he.cell (World.block_lt_of_cell? w _ d)]; exact d⟩
theorem OpR.Ok.ext {w w' : World} {r : OpR} (h : r.Ok w) (he : Ext w w') : r.Ok w' := ⟨h.data.ext he, h.more.ext he, h.ch.ext he, h.name, h.to, h.n, h.chs⟩
theorem OpsAt.ext {w w' : World} {v : Value} {l : List OpR} (h : OpsAt w v l) (he : Ext w w') : OpsAt w' v l := by
  obtain ⟨h1, hm, h2⟩ := h
  refine ⟨fun r hr => (h1 r hr).ext he, hm, ?_⟩
  rcases h2 with h | ⟨g, o, c, h1, h2, h3⟩
  · exact .inl h
  · exact .inr ⟨g, o, c, h1, h2, fun i hi j hj => by rw [he.cell (World.block_lt_of_cell? w _ (h3 i hi j hj))]; exact h3 i hi j hj⟩

theorem bytes_slice {w : World} {v : Value} {l : List UInt8} (h : BytesAt w v l) : ∃ a c, v = .slice a l.length c := by
  rcases h with ⟨h1, h0⟩ | ⟨a, cap, h1, _⟩
  · exact ⟨none, 0, by rw [h1, h0]; rfl⟩
  · exact ⟨_, _, h1⟩
theorem choices_slice {w : World} {v : Value} {l : List Ch} (h : ChoicesAt w v l) : ∃ a c, v = .slice a l.length c := by
  rcases h with ⟨⟨a, c, h1⟩, h0⟩ | ⟨g, o, c, h1, _⟩
  · exact ⟨a, c, by rw [h1, h0]; rfl⟩
  · exact ⟨_, _, h1⟩

/-- what a round of a loop over commands finds -/
theorem OpsAt.at_ {w wr : World} {v : Value} {l : List OpR} (h : OpsAt w v l) (he : Ext w wr) {i : Nat} (hi : i < l.length) :
    ∃ g o c ad cd am cm ac cc, v = .slice (some ⟨g, o, none⟩) l.length c ∧ g < wr.heap.size ∧ l[i].vd = .slice ad l[i].o.data.length cd ∧ l[i].vm = .slice am l[i].o.more.length cm ∧ l[i].vc = .slice ac l[i].o.ch.length cc ∧
      wr.cell? ⟨g, o + i * 7, none⟩ = some (.int .i64 l[i].o.kind) ∧ wr.cell? ⟨g, o + i * 7 + 1, none⟩ = some (.string l[i].o.name) ∧ wr.cell? ⟨g, o + i * 7 + 2, none⟩ = some (.string l[i].o.to) ∧
      wr.cell? ⟨g, o + i * 7 + 3, none⟩ = some (.slice ad l[i].o.data.length cd) ∧ wr.cell? ⟨g, o + i * 7 + 4, none⟩ = some (.slice am l[i].o.more.length cm) ∧ wr.cell? ⟨g, o + i * 7 + 5, none⟩ = some (.int .i64 l[i].o.n) ∧ wr.cell? ⟨g, o + i * 7 + 6, none⟩ = some (.slice ac l[i].o.ch.length cc) := by
  obtain ⟨h1, _, h2⟩ := h.ext he
  have hok := h1 l[i] (List.getElem_mem hi)
  obtain ⟨ad, cd, e1⟩ := bytes_slice hok.data
  obtain ⟨am, cm, e2⟩ := bytes_slice hok.more
  obtain ⟨ac, cc, e3⟩ := choices_slice hok.ch
  rcases h2 with ⟨_, h0⟩ | ⟨g, o, c, hv, _, hc⟩
  · rw [h0] at hi; simp at hi
  · have hcj := hc i hi
    have c0 := hcj 0 (by decide); have c1 := hcj 1 (by decide); have c2 := hcj 2 (by decide); have c3 := hcj 3 (by decide); have c4 := hcj 4 (by decide); have c5 := hcj 5 (by decide); have c6 := hcj 6 (by decide)
    simp only [OpR.cells, e1, e2, e3] at c0 c1 c2 c3 c4 c5 c6
    exact ⟨g, o, c, ad, cd, am, cm, ac, cc, hv, World.block_lt_of_cell? wr _ c0, e1, e2, e3, c0, c1, c2, c3, c4, c5, c6⟩
theorem OpsAt.slice {w : World} {v : Value} {l : List OpR} (h : OpsAt w v l) : ∃ a c, v = .slice a l.length c := by
  rcases h.2.2 with ⟨⟨a, c, h1⟩, h0⟩ | ⟨g, o, c, h1, _⟩
  · exact ⟨a, c, by rw [h1, h0]; rfl⟩
  · exact ⟨_, _, h1⟩

def OpM.big (o : OpM) : Prop := 200 < o.data.length ∨ 200 < o.more.length ∨ 100 < o.name.size ∨ 100 < o.to.size ∨ 60 < o.ch.length
instance (o : OpM) : Decidable o.big := by unfold OpM.big; infer_instance
def smallB (l : List OpR) : Bool := l.all (fun r => decide (¬ r.o.big)) && decide (l.length ≤ 60)

theorem small_any {w : World} {v : Value} {l : List OpR} (h : OpsAt w v l) : Calls Try.prog 14 #[v] w fun e w' => e = .returned (.bool (smallB l)) ∧ Ext w w' := by
  have H := Lib.hid h
  obtain ⟨a, c, rfl⟩ := h.slice
  have hm := h.2.1
  unfold maxLen at hm
  clear h
  go_enter Try.func14, Try.ntmps14
  go_wp2
  go_loopg [7] l.length (fun g s7 wr => ∃ i : Nat, s7 = .int .i64 i ∧ i ≤ l.length ∧ g = l.length - i ∧ Ext w wr ∧ ∀ r ∈ l.take i, ¬ r.o.big)
  case atStart => exact ⟨0, rfl, Nat.zero_le _, rfl, Ext.refl w, by simp⟩
  case round =>
    obtain ⟨i, rfl, hi, hg, hext, hall⟩ := hrel
    rcases Nat.lt_or_ge i l.length with hlt | hge
    · obtain ⟨g0, o0, c', ad, cd, am, cm, ac, cc, hv, hgl, -, -, -, k0, k1, k2, k3, k4, k5, k6⟩ := H.out.at_ hext hlt
      cases hv
      have HX := Lib.hid hext; have HA := Lib.hid hall; have HG := Lib.hid hg
      clear hext hall hg
      by_cases hb : l[i].o.big
      · have hf : smallB l = false := by
          unfold smallB
          rw [Bool.and_eq_false_iff]; left
          rw [List.all_eq_false]
          exact ⟨l[i], List.getElem_mem hlt, by simpa using hb⟩
        have HF := Lib.hid hf
        have HB := Lib.hid hb
        clear hf hb
        generalize hfe : l[i] = r at *
        clear hfe
        by_cases b1 : 200 < r.o.data.length
        · go_wp2
          go_ret
          exact ⟨by rw [HF.out]; rfl, HX.out.alloc HX.out.size _⟩
        by_cases b2 : 200 < r.o.more.length
        · go_wp2
          go_ret
          exact ⟨by rw [HF.out]; rfl, HX.out.alloc HX.out.size _⟩
        by_cases b3 : 100 < r.o.name.size
        · go_wp2
          go_ret
          exact ⟨by rw [HF.out]; rfl, HX.out.alloc HX.out.size _⟩
        by_cases b4 : 100 < r.o.to.size
        · go_wp2
          go_ret
          exact ⟨by rw [HF.out]; rfl, HX.out.alloc HX.out.size _⟩
        have b5 : 60 < r.o.ch.length := by
          rcases HB.out with h | h | h | h | h
          · exact absurd h b1
          · exact absurd h b2
          · exact absurd h b3
          · exact absurd h b4
          · exact h
        go_wp2
        go_ret
        exact ⟨by rw [HF.out]; rfl, HX.out.alloc HX.out.size _⟩
      · have HB := Lib.hid hb
        have hno : ¬ (200 < l[i].o.data.length) ∧ ¬ (200 < l[i].o.more.length) ∧ ¬ (100 < l[i].o.name.size) ∧ ¬ (100 < l[i].o.to.size) ∧ ¬ (60 < l[i].o.ch.length) := by
          unfold OpM.big at hb
          refine ⟨fun h => hb (.inl h), fun h => hb (.inr (.inl h)), fun h => hb (.inr (.inr (.inl h))), fun h => hb (.inr (.inr (.inr (.inl h)))), fun h => hb (.inr (.inr (.inr (.inr h))))⟩
        obtain ⟨b1, b2, b3, b4, b5⟩ := hno
        clear hb
        have hA2 : ∀ r ∈ l.take (i + 1), ¬ r.o.big := fun r hr => by
          rw [List.take_succ_eq_append_getElem hlt] at hr
          rcases List.mem_append.1 hr with hr | hr
          · exact HA.out r hr
          · rw [List.mem_singleton.1 hr]; exact HB.out
        have HA2 := Lib.hid hA2
        clear hA2
        generalize hfe : l[i] = r at *
        clear hfe HB
        go_wp2
        go_roundg (l.length - (i + 1))
        case measure => have := HG.out; omega
        case rel => exact ⟨i + 1, by go_num, by omega, rfl, HX.out.alloc HX.out.size _, HA2.out⟩
    · have hiN : i = l.length := by omega
      subst hiN
      rw [List.take_length] at hall
      have hs : smallB l = decide ((l.length : Int) ≤ 60) := by
        unfold smallB
        have h1 : l.all (fun r => decide (¬ r.o.big)) = true := by rw [List.all_eq_true]; intro r hr; simpa using hall r hr
        rw [h1, Bool.true_and]
        by_cases h2 : l.length ≤ 60
        · have h3 : (l.length : Int) ≤ 60 := by omega
          simp [h2, h3]
        · have h3 : ¬ (l.length : Int) ≤ 60 := by omega
          simp [h2, h3]
      have HS := Lib.hid hs; have HX := Lib.hid hext
      clear hs hall hext hg hge hi
      go_wp2
      skip
      go_ret
      exact ⟨by rw [HS.out]; rfl, HX.out⟩
end Go.Proofs.Ytjbalcfdenaneaa
