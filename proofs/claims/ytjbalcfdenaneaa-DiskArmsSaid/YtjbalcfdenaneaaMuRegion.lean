import Derived.Still
import Derived.Deep.Draws
import Derived.WalkKit
namespace Go.Proofs.Ytjbalcfdenaneaa.Mu
open Go

/-- does j wait for i, over any steps? -/
def waits (ops : Array Oper) : Nat → Nat → Nat → Bool
  | 0, _, _ => false
  | n + 1, j, i => match ops[j]? with
    | none => false
    | some o => o.after.toList.any fun e => Region.binds .any e && (e.on == i || waits ops n e.on i)

/-- whatever is listed: all that it waits for is listed -/
def Closed (ops : Array Oper) (listed : Array Bool) : Prop :=
  ∀ j o, ops[j]? = some o → listed.getD j false = true → ∀ e ∈ o.after, Region.binds .any e = true → listed.getD e.on false = true

theorem waits_listed {ops : Array Oper} {listed : Array Bool} (hc : Closed ops listed) :
    ∀ n j i, listed.getD j false = true → waits ops n j i = true → listed.getD i false = true := by
  intro n
  induction n with
  | zero => intro j i _ h; simp [waits] at h
  | succ n ih =>
    intro j i hj h
    unfold waits at h
    cases ho : ops[j]? with
    | none => simp [ho] at h
    | some o =>
      simp only [ho] at h
      obtain ⟨e, he, hb⟩ := List.any_eq_true.1 h
      rw [Array.mem_toList_iff] at he
      simp only [Bool.and_eq_true, Bool.or_eq_true, beq_iff_eq] at hb
      have h1 := hc j o ho hj e he hb.1
      rcases hb.2 with h2 | h2
      · rw [← h2]; exact h1
      · exact ih e.on i h1 h2

theorem waits_ready {ops : Array Oper} {listed : Array Bool} (hc : Closed ops listed) {n j i : Nat} (hj : j ∈ Region.ready .any ops listed) (hi : listed.getD i false = false) : waits ops n j i = false := by
  cases n with
  | zero => rfl
  | succ n =>
    obtain ⟨_, o, ho, hall⟩ := mem_ready.1 hj
    cases hw : waits ops (n + 1) j i with
    | false => rfl
    | true =>
      unfold waits at hw
      simp only [ho] at hw
      obtain ⟨e, he, hb⟩ := List.any_eq_true.1 hw
      rw [Array.mem_toList_iff] at he
      simp only [Bool.and_eq_true, Bool.or_eq_true, beq_iff_eq] at hb
      have h1 := hall e he hb.1
      rcases hb.2 with h2 | h2
      · rw [h2, hi] at h1; cases h1
      · rw [waits_listed hc n e.on i h1 h2] at hi; cases hi

theorem getD_replicate_false' (m j : Nat) : (Array.replicate m false).getD j false = false := by
  rcases Nat.lt_or_ge j m with h | h <;> simp [h]

theorem Closed.set {ops : Array Oper} {listed : Array Bool} (hc : Closed ops listed) {i : Nat} (hi : i ∈ Region.ready .any ops listed) : Closed ops (listed.setIfInBounds i true) := by
  obtain ⟨_, oi, hoi, hall⟩ := mem_ready.1 hi
  intro j o ho hl e he hb
  by_cases hij : i = j
  · subst hij
    have : o = oi := Option.some.inj (ho.symm.trans hoi)
    subst this
    exact getD_set_true (hall e he hb)
  · rw [getD_set_ne false hij] at hl
    exact getD_set_true (hc j o ho hl e he hb)

inductive Tag where | p | q | r | e
  deriving DecidableEq

/-- reads that were taken: number, what was run, what it gave -/
abbrev Held := Nat → Sem Next → Value → Prop
def Held.put (h : Held) (i : Nat) (s : Sem Next) (v : Value) : Held := fun r s' u => h r s' u ∨ (r = i ∧ s' = s ∧ u = v)
def Held.keeps (P : Program) (ops : Array Oper) (h : Held) (i : Nat) (w : World) : Prop :=
  ∀ r s u, h r s u → waits ops ops.size i r = false → s.run P w = .ok (.value u) w

theorem Held.put_comm (h : Held) (i j : Nat) (s t x y) : (h.put i s x).put j t y = (h.put j t y).put i s x := by
  funext r s u; exact propext ⟨fun h => by unfold Held.put at *; rcases h with (h | h) | h <;> simp [h], fun h => by unfold Held.put at *; rcases h with (h | h) | h <;> simp [h]⟩

variable {P : Program} {ops : Array Oper}
def pStep (P : Program) (ops : Array Oper) (o : Oper) (K : Held → Act → World → Prop) (h : Held) (a : Act) (w : World) : Prop :=
  if Region.wanted o (yielded ops a.tmps) then ∃ v, (∀ w', (execOp a.eval o).run P w' = .ok (.value v) w') ∧ K h (a.put o.dst v) w else K h (a.put o.dst undef) w
def rStep (P : Program) (ops : Array Oper) (i : Nat) (o : Oper) (K : Held → Act → World → Prop) (h : Held) (a : Act) (w : World) : Prop :=
  if Region.wanted o (yielded ops a.tmps) then ∃ v, (execOp a.eval o).run P w = .ok (.value v) w ∧ K (h.put i (execOp a.eval o) v) (a.put o.dst v) w else K h (a.put o.dst undef) w
def qStep (P : Program) (ops : Array Oper) (o : Oper) (K : Held → Act → World → Prop) (h : Held) (a : Act) (w : World) : Prop :=
  if Region.wanted o (yielded ops a.tmps) then ∃ v, (execOp a.eval o).run P w = .ok (.value v) w ∧ K h (a.put o.dst v) w else K h (a.put o.dst undef) w
def eStep (P : Program) (ops : Array Oper) (i : Nat) (o : Oper) (K : Held → Act → World → Prop) (h : Held) (a : Act) (w : World) : Prop :=
  if Region.wanted o (yielded ops a.tmps) then o.wp P a w (fun a1 w1 => h.keeps P ops i w1 ∧ K h a1 w1) (fun _ _ _ => False) else K h (a.put o.dst undef) w
def gOp (P : Program) (ops : Array Oper) (T : Nat → Tag) (i : Nat) (K : Held → Act → World → Prop) (h : Held) (a : Act) (w : World) : Prop :=
  match ops[i]? with
  | none => K h a w
  | some o => match T i with
    | .p => pStep P ops o K h a w
    | .q => qStep P ops o K h a w
    | .r => rStep P ops i o K h a w
    | .e => eStep P ops i o K h a w

theorem gOp_mono {T : Nat → Tag} {i : Nat} {K K' : Held → Act → World → Prop} (hK : ∀ h a w, K h a w → K' h a w) {h : Held} {a : Act} {w : World} (g : gOp P ops T i K h a w) : gOp P ops T i K' h a w := by
  unfold gOp at *
  cases ho : ops[i]? with
  | none => simp only [ho] at g ⊢; exact hK _ _ _ g
  | some o =>
    simp only [ho] at g ⊢
    cases ht : T i <;> simp only [ht, pStep, qStep, rStep, eStep] at g ⊢ <;> by_cases hw : Region.wanted o (yielded ops a.tmps) = true <;> simp only [hw, if_true, Bool.false_eq_true, if_false] at g ⊢
    · obtain ⟨v, h1, h2⟩ := g; exact ⟨v, h1, hK _ _ _ h2⟩
    · exact hK _ _ _ g
    · obtain ⟨v, h1, h2⟩ := g; exact ⟨v, h1, hK _ _ _ h2⟩
    · exact hK _ _ _ g
    · obtain ⟨v, h1, h2⟩ := g; exact ⟨v, h1, hK _ _ _ h2⟩
    · exact hK _ _ _ g
    · exact Oper.wp_mono (fun _ _ hh => ⟨hh.1, hK _ _ _ hh.2⟩) g
    · exact hK _ _ _ g

def game (P : Program) (ops : Array Oper) (T : Nat → Tag) (N : Act → World → Prop) : Nat → Array Bool → Held → Act → World → Prop
  | 0, listed, _, a, w => Region.ready .any ops listed = [] ∧ N a w
  | f + 1, listed, h, a, w => (Region.ready .any ops listed = [] → N a w) ∧
    ∀ i ∈ Region.ready .any ops listed, gOp P ops T i (game P ops T N f (listed.setIfInBounds i true)) h a w

theorem wpOp_of_gOp {T : Nat → Tag} {i : Nat} {K : Held → Act → World → Prop} {K' : Act → World → Prop} {Q : Exit → Act → World → Prop} (hK : ∀ h a w, K h a w → K' a w) {h : Held} {a : Act} {w : World} (g : gOp P ops T i K h a w) : wpOp P ops Q i K' a w := by
  unfold gOp at g
  unfold wpOp
  split at g
  · rename_i ho; simp only [ho]; exact hK _ _ _ g
  · rename_i o ho
    simp only [ho]
    split at g
    · unfold pStep at g; split
      · rename_i hw; rw [if_pos hw] at g
        obtain ⟨v, h1, h2⟩ := g
        refine .inl ?_; unfold Oper.wp; rw [h1 w]; exact hK _ _ _ h2
      · rename_i hw; rw [if_neg hw] at g; exact hK _ _ _ g
    · unfold qStep at g; split
      · rename_i hw; rw [if_pos hw] at g
        obtain ⟨v, h1, h2⟩ := g
        refine .inl ?_; unfold Oper.wp; rw [h1]; exact hK _ _ _ h2
      · rename_i hw; rw [if_neg hw] at g; exact hK _ _ _ g
    · unfold rStep at g; split
      · rename_i hw; rw [if_pos hw] at g
        obtain ⟨v, h1, h2⟩ := g
        refine .inl ?_; unfold Oper.wp; rw [h1]; exact hK _ _ _ h2
      · rename_i hw; rw [if_neg hw] at g; exact hK _ _ _ g
    · unfold eStep at g; split
      · rename_i hw; rw [if_pos hw] at g
        refine .inl ?_
        have g2 := Oper.wp_mono (K' := K') (fun _ _ hh => hK _ _ _ hh.2) g
        revert g2; unfold Oper.wp
        generalize (execOp a.eval o).run P w = r
        intro g2
        cases r with
        | ok n w' =>
          cases n <;> simp only [Oper.upon] at g2 ⊢ <;> first
            | exact g2
            | exact Calls.mono g2 (fun e w'' he => by cases e <;> first | exact he | exact he.elim | (obtain ⟨_, _, hx⟩ := he; exact hx.elim))
        | halt x w' => cases x <;> simp only [Oper.upon] at g2
      · rename_i hw; rw [if_neg hw] at g; exact hK _ _ _ g

theorem wpAny_of_game {T : Nat → Tag} {N : Act → World → Prop} {Q : Exit → Act → World → Prop} (hN : ∀ a w, N a w → Q .normal a w) :
    ∀ (f : Nat) (listed : Array Bool) (h : Held) (a : Act) (w : World), game P ops T N f listed h a w → wpAny P .any ops Q f listed a w
  | 0, _, _, _, _, g => ⟨g.1, hN _ _ g.2⟩
  | f + 1, _, _, _, _, g => ⟨fun h0 => hN _ _ (g.1 h0), fun i hi => wpOp_of_gOp (fun h a w => wpAny_of_game hN f _ h a w) (g.2 i hi)⟩

/-- what is taken: k's value, ready for whoever asks later -/
def Gives (P : Program) (ops : Array Oper) (t : Tag) (o : Oper) (v : Value) (a : Act) (w : World) : Prop :=
  (Region.wanted o (yielded ops a.tmps) = true ∧ match t with
    | .p => ∀ w', (execOp a.eval o).run P w' = .ok (.value v) w'
    | .q | .r => (execOp a.eval o).run P w = .ok (.value v) w
    | .e => False) ∨ (Region.wanted o (yielded ops a.tmps) = false ∧ v = undef ∧ t ≠ .e)

/-- what becomes of the record -/
def Held.by (h : Held) (ops : Array Oper) (t : Tag) (i : Nat) (o : Oper) (v : Value) (a : Act) : Held :=
  if t = .r ∧ Region.wanted o (yielded ops a.tmps) = true then h.put i (execOp a.eval o) v else h

theorem gives_of_gOp {T : Nat → Tag} {i : Nat} {o : Oper} (hi : ops[i]? = some o) (ht : T i ≠ .e) {K : Held → Act → World → Prop} {h : Held} {a : Act} {w : World} (g : gOp P ops T i K h a w) :
    ∃ v, Gives P ops (T i) o v a w ∧ K (h.by ops (T i) i o v a) (a.put o.dst v) w := by
  unfold gOp at g
  simp only [hi] at g
  unfold Gives Held.by
  cases hT : T i with
  | e => exact absurd hT ht
  | p =>
    simp only [hT, pStep] at g
    by_cases hw : Region.wanted o (yielded ops a.tmps) = true
    · simp only [hw, if_true] at g; obtain ⟨v, h1, h2⟩ := g; exact ⟨v, .inl ⟨hw, h1⟩, by simpa using h2⟩
    · simp only [hw] at g; exact ⟨undef, .inr ⟨by simpa using hw, rfl, by simp⟩, by simpa using g⟩
  | q =>
    simp only [hT, qStep] at g
    by_cases hw : Region.wanted o (yielded ops a.tmps) = true
    · simp only [hw, if_true] at g; obtain ⟨v, h1, h2⟩ := g; exact ⟨v, .inl ⟨hw, h1⟩, by simpa using h2⟩
    · simp only [hw] at g; exact ⟨undef, .inr ⟨by simpa using hw, rfl, by simp⟩, by simpa using g⟩
  | r =>
    simp only [hT, rStep] at g
    by_cases hw : Region.wanted o (yielded ops a.tmps) = true
    · simp only [hw, if_true] at g; obtain ⟨v, h1, h2⟩ := g; exact ⟨v, .inl ⟨hw, h1⟩, by simpa [hw] using h2⟩
    · simp only [hw] at g; exact ⟨undef, .inr ⟨by simpa using hw, rfl, by simp⟩, by simpa [hw] using g⟩

theorem Gives.gOp {T : Nat → Tag} {i : Nat} {o : Oper} {v : Value} {a : Act} {w : World} (hi : ops[i]? = some o) (hy : Gives P ops (T i) o v a w) {K : Held → Act → World → Prop} {h : Held} (g : K (h.by ops (T i) i o v a) (a.put o.dst v) w) : gOp P ops T i K h a w := by
  unfold Mu.gOp
  simp only [hi]
  unfold Gives at hy
  unfold Held.by at g
  cases hT : T i with
  | e => rw [hT] at hy; rcases hy with ⟨_, h⟩ | ⟨_, _, h⟩ <;> simp at h
  | p =>
    simp only [hT, pStep] at hy ⊢
    simp only [hT] at g
    rcases hy with ⟨hw, hv⟩ | ⟨hw, rfl, _⟩
    · simp only [hw, if_true]; exact ⟨v, hv, by simpa using g⟩
    · simp only [hw, Bool.false_eq_true, if_false]; simpa using g
  | q =>
    simp only [hT, qStep] at hy ⊢
    simp only [hT] at g
    rcases hy with ⟨hw, hv⟩ | ⟨hw, rfl, _⟩
    · simp only [hw, if_true]; exact ⟨v, hv, by simpa using g⟩
    · simp only [hw, Bool.false_eq_true, if_false]; simpa using g
  | r =>
    simp only [hT, rStep] at hy ⊢
    simp only [hT] at g
    rcases hy with ⟨hw, hv⟩ | ⟨hw, rfl, _⟩
    · simp only [hw, if_true]; exact ⟨v, hv, by simpa [hw] using g⟩
    · simp only [hw, Bool.false_eq_true, if_false]; simpa [hw] using g

/-- the game's middle: j is taken ahead of k, which stays what it is -/
theorem gOp_put {T : Nat → Tag} {j k : Nat} {oj ok : Oper} {v : Value} (hj : ops[j]? = some oj) (hap : ok.apart ops oj = true)
    (hsk : ∀ cs b, ok.op ≠ .select cs b) (hsj : ∀ cs b, oj.op ≠ .select cs b) (hwt : waits ops ops.size j k = false) (hq : T k = .q → T j = .e → waits ops ops.size j k = true)
    {K : Held → Act → World → Prop} {h : Held} {a : Act} {w : World} (hy : Gives P ops (T k) ok v a w)
    (g : gOp P ops T j K (h.by ops (T k) k ok v a) (a.put ok.dst v) w) :
    gOp P ops T j (fun h' a' w' => Gives P ops (T k) ok v a' w' ∧ K (h'.by ops (T k) k ok v a') (a'.put ok.dst v) w') h a w := by
  obtain ⟨h1, h2, h3⟩ := Oper.apart_spec hap
  have hsame : ∀ (a : Act) u, execOp (a.put oj.dst u).eval ok = execOp a.eval ok := fun a u => execOp_put ok hsk a oj.dst u h3
  have hwant : ∀ (a : Act) u, Region.wanted ok (yielded ops (a.put oj.dst u).tmps) = Region.wanted ok (yielded ops a.tmps) := fun a u => wanted_put ok a oj.dst u h3
  have keep : ∀ u w, Gives P ops (T k) ok v a w → Gives P ops (T k) ok v (a.put oj.dst u) w := fun u w hy => by unfold Gives at *; rw [hsame, hwant]; exact hy
  have hby : ∀ (h' : Held) u, h'.by ops (T k) k ok v (a.put oj.dst u) = h'.by ops (T k) k ok v a := fun h' u => by unfold Held.by; rw [hsame, hwant]
  have hputs : ∀ s x, (h.by ops (T k) k ok v a).put j s x = (h.put j s x).by ops (T k) k ok v a := fun s x => by
    unfold Held.by; split
    · exact Held.put_comm h _ _ _ _ _ _
    · rfl
  -- what the record says of k, in whatever world comes
  have hk : ∀ w1, T j = .e → (h.by ops (T k) k ok v a).keeps P ops j w1 → h.keeps P ops j w1 ∧ Gives P ops (T k) ok v a w1 := by
    intro w1 hje hkeep
    unfold Gives at hy ⊢
    unfold Held.by at hkeep
    rcases hy with ⟨hw, hv⟩ | hy
    · cases hTk : T k with
      | p => rw [hTk] at hv hkeep; exact ⟨by simpa using hkeep, .inl ⟨hw, hv⟩⟩
      | q => rw [hq hTk hje] at hwt; cases hwt
      | r =>
        rw [hTk] at hv hkeep
        simp only [hw, and_self, if_true] at hkeep
        exact ⟨fun r s u hr => hkeep r s u (.inl hr), .inl ⟨hw, hkeep k _ _ (.inr ⟨rfl, rfl, rfl⟩) hwt⟩⟩
      | e => rw [hTk] at hv; exact hv.elim
    · rw [hy.1] at hkeep
      simp only [Bool.false_eq_true, and_false, if_false] at hkeep
      exact ⟨hkeep, .inr hy⟩
  unfold gOp at *
  simp only [hj] at *
  cases hT : T j with
  | p =>
    simp only [hT, pStep] at g ⊢
    rw [wanted_put oj a ok.dst v h1] at g
    by_cases hw : Region.wanted oj (yielded ops a.tmps) = true
    · simp only [hw, if_true] at g ⊢
      rw [execOp_put oj hsj a ok.dst v h1] at g
      obtain ⟨u, e1, e2⟩ := g
      exact ⟨u, e1, keep u w hy, by rw [hby, ← Act.put_comm a v u h2]; exact e2⟩
    · simp only [hw] at g ⊢
      exact ⟨keep undef w hy, by rw [hby, ← Act.put_comm a v undef h2]; exact g⟩
  | q =>
    simp only [hT, qStep] at g ⊢
    rw [wanted_put oj a ok.dst v h1] at g
    by_cases hw : Region.wanted oj (yielded ops a.tmps) = true
    · simp only [hw, if_true] at g ⊢
      rw [execOp_put oj hsj a ok.dst v h1] at g
      obtain ⟨u, e1, e2⟩ := g
      exact ⟨u, e1, keep u w hy, by rw [hby, ← Act.put_comm a v u h2]; exact e2⟩
    · simp only [hw] at g ⊢
      exact ⟨keep undef w hy, by rw [hby, ← Act.put_comm a v undef h2]; exact g⟩
  | r =>
    simp only [hT, rStep] at g ⊢
    rw [wanted_put oj a ok.dst v h1] at g
    by_cases hw : Region.wanted oj (yielded ops a.tmps) = true
    · simp only [hw, if_true] at g ⊢
      rw [execOp_put oj hsj a ok.dst v h1] at g
      obtain ⟨u, e1, e2⟩ := g
      exact ⟨u, e1, keep u w hy, by rw [hby, ← hputs, ← Act.put_comm a v u h2]; exact e2⟩
    · simp only [hw] at g ⊢
      exact ⟨keep undef w hy, by rw [hby, ← Act.put_comm a v undef h2]; exact g⟩
  | e =>
    simp only [hT, eStep] at g ⊢
    rw [wanted_put oj a ok.dst v h1] at g
    by_cases hw : Region.wanted oj (yielded ops a.tmps) = true
    · simp only [hw, if_true] at g ⊢
      unfold Oper.wp at *
      rw [execOp_put oj hsj a ok.dst v h1] at g
      generalize (execOp a.eval oj).run P w = rr at g
      have fin : ∀ u w1, ((h.by ops (T k) k ok v a).keeps P ops j w1 ∧ K (h.by ops (T k) k ok v a) ((a.put ok.dst v).put oj.dst u) w1) →
          h.keeps P ops j w1 ∧ Gives P ops (T k) ok v (a.put oj.dst u) w1 ∧ K (h.by ops (T k) k ok v (a.put oj.dst u)) ((a.put oj.dst u).put ok.dst v) w1 := fun u w1 ⟨g1, g2⟩ =>
        let ⟨k1, k2⟩ := hk w1 hT g1
        ⟨k1, keep u w1 k2, by rw [hby, ← Act.put_comm a v u h2]; exact g2⟩
      cases rr with
      | ok n w' =>
        cases n <;> simp only [Oper.upon] at g ⊢
        case value u => exact fin u _ g
        case skip => exact fin undef _ g
        case enter f args => exact Calls.mono g (fun e w'' he => by cases e <;> first | exact fin _ _ he | exact he | (obtain ⟨_, _, hx⟩ := he; exact hx.elim))
        case row row args => exact Rows.mono g (fun _ _ he => fin _ _ he)
        case defer d =>
          obtain ⟨g1, g2⟩ := g
          obtain ⟨k1, k2⟩ := hk w' hT g1
          have hd : ({ a.put ok.dst v with defers := d :: (a.put ok.dst v).defers } : Act) = ({ a with defers := d :: a.defers } : Act).put ok.dst v := Act.put_defers a ok.dst v d
          rw [hd] at g2
          refine ⟨k1, ?_, ?_⟩
          · have k3 := keep undef w' k2
            unfold Gives at k3 ⊢
            cases hdst : oj.dst <;> rw [hdst] at k3 <;> exact k3
          · have hb2 : h.by ops (T k) k ok v (({ a with defers := d :: a.defers } : Act).put oj.dst undef) = h.by ops (T k) k ok v a := by
              rw [← hby h undef]; unfold Held.by; cases oj.dst <;> rfl
            rw [hb2, ← Act.put_comm _ v undef h2]; exact g2
      | halt x w' => cases x <;> simp only [Oper.upon] at g ⊢
    · simp only [hw] at g ⊢
      exact ⟨keep undef w hy, by rw [hby, ← Act.put_comm a v undef h2]; exact g⟩

/-- k, no effect, may be taken first -/
theorem game_first {T : Nat → Tag} {N : Act → World → Prop} {k : Nat} {ok : Oper} {v : Value} (hk : ops[k]? = some ok) (hsel : ∀ (j : Nat) (o : Oper) cs b, ops[j]? = some o → o.op ≠ .select cs b) :
    ∀ (f : Nat) (listed : Array Bool) (h : Held) (a : Act) (w : World), Closed ops listed →
      (T k = .q → ∀ j, listed.getD j true = false → T j = .e → waits ops ops.size j k = true) →
      (∀ j oj, ops[j]? = some oj → j ≠ k → listed.getD j true = false → (∀ e ∈ oj.after, Region.binds .any e = true → e.on ≠ k) → ok.apart ops oj = true) →
      k ∈ Region.ready .any ops listed → Gives P ops (T k) ok v a w →
      game P ops T N f (listed.setIfInBounds k true) (h.by ops (T k) k ok v a) (a.put ok.dst v) w → game P ops T N (f + 1) listed h a w := by
  intro f
  induction f with
  | zero =>
    intro listed h a w _ _ _ hr hy H
    refine ⟨fun e => (by rw [e] at hr; cases hr), fun j hj => ?_⟩
    by_cases hjk : j = k
    · subst hjk; exact hy.gOp hk H
    · have := ready_mono hj hjk
      rw [H.1] at this
      cases this
  | succ f ih =>
    intro listed h a w hc hq hfree hr hy H
    refine ⟨fun e => (by rw [e] at hr; cases hr), fun j hj => ?_⟩
    by_cases hjk : j = k
    · subst hjk; exact hy.gOp hk H
    · have h1 := H.2 j (ready_mono hj hjk)
      obtain ⟨hjun, oj, hoj, hall⟩ := mem_ready.1 hj
      have hkf : listed.getD k false = false := by
        have h0 := (mem_ready.1 hr).1
        rcases Nat.lt_or_ge k listed.size with h' | h'
        · simp [h'] at h0 ⊢; exact h0
        · simp [Array.getElem?_eq_none h'] at h0
      have hnot : ∀ e ∈ oj.after, Region.binds .any e = true → e.on ≠ k := fun e he hb heq => by
        have h1 := hall e he hb
        rw [heq, hkf] at h1; cases h1
      have h2 := gOp_put hoj (hfree j oj hoj hjk hjun hnot) (fun cs b => hsel k ok cs b hk) (fun cs b => hsel j oj cs b hoj) (waits_ready hc hj hkf) (fun e1 e2 => hq e1 j hjun e2) hy h1
      have hq' : T k = .q → ∀ i, (listed.setIfInBounds j true).getD i true = false → T i = .e → waits ops ops.size i k = true := fun e1 i hun e2 => by
        refine hq e1 i ?_ e2
        by_cases hji : j = i
        · subst hji; exact hjun
        · rw [getD_set_ne true hji] at hun; exact hun
      have hfree' : ∀ i oi, ops[i]? = some oi → i ≠ k → (listed.setIfInBounds j true).getD i true = false →
          (∀ e ∈ oi.after, Region.binds .any e = true → e.on ≠ k) → ok.apart ops oi = true := fun i oi hi hik hun hno => by
        refine hfree i oi hi hik ?_ hno
        by_cases hji : j = i
        · subst hji; exact hjun
        · rw [getD_set_ne true hji] at hun; exact hun
      refine gOp_mono (fun h' a' w' h3 => ih (listed.setIfInBounds j true) h' a' w' (hc.set hj) hq' hfree' (ready_mono hr (Ne.symm hjk)) h3.1 ?_) h2
      rw [Array.setIfInBounds_comm _ _ hjk]
      exact h3.2

/-- the order that is walked: reads ahead of effects; an effect where nothing else may come -/
def orderOk (ops : Array Oper) (T : Nat → Tag) : List Nat → Array Bool → Bool
  | [], listed => (Region.ready .any ops listed).isEmpty
  | k :: rest, listed =>
    (match T k with
      | .e => Region.ready .any ops listed == [k]
      | .q => (Region.ready .any ops listed).contains k && Region.free .any ops listed k && (List.range ops.size).all fun j => listed.getD j true || T j != .e || waits ops ops.size j k
      | _ => (Region.ready .any ops listed).contains k && Region.free .any ops listed k) && orderOk ops T rest (listed.setIfInBounds k true)

def walkSig (P : Program) (ops : Array Oper) (T : Nat → Tag) (N : Act → World → Prop) : List Nat → Held → Act → World → Prop
  | [], _, a, w => N a w
  | k :: rest, h, a, w => gOp P ops T k (walkSig P ops T N rest) h a w

theorem game_of_walk {T : Nat → Tag} {N : Act → World → Prop} (hs : Region.noSelect ops = true) : ∀ (l : List Nat) (listed : Array Bool) (h : Held) (a : Act) (w : World), listed.size = ops.size → Closed ops listed →
    orderOk ops T l listed = true → walkSig P ops T N l h a w → game P ops T N l.length listed h a w
  | [], _, _, _, _, _, _, hB, g => ⟨by simpa [orderOk] using hB, g⟩
  | k :: l, listed, h, a, w, hsz, hc, hB, g => by
    simp only [orderOk, Bool.and_eq_true] at hB
    obtain ⟨h1, h2⟩ := hB
    by_cases ht : T k = .e
    · rw [ht] at h1
      have hr : Region.ready .any ops listed = [k] := by simpa using h1
      have hkr : k ∈ Region.ready .any ops listed := by rw [hr]; exact List.mem_singleton.2 rfl
      refine ⟨fun e => (by rw [hr] at e; cases e), fun i hi => ?_⟩
      rw [hr, List.mem_singleton] at hi
      subst hi
      exact gOp_mono (fun h a w g => game_of_walk hs l _ h a w (by simpa using hsz) (hc.set hkr) h2 g) g
    · have h3 : (Region.ready .any ops listed).contains k = true ∧ Region.free .any ops listed k = true := by
        revert h1; cases hT : T k <;> simp_all
      have h4 : T k = .q → ∀ j, listed.getD j true = false → T j = .e → waits ops ops.size j k = true := fun hq j hun he => by
        rw [hq] at h1
        simp only [Bool.and_eq_true] at h1
        have h5 := List.all_eq_true.1 h1.2 j
        rcases Nat.lt_or_ge j ops.size with hj | hj
        · have h6 := h5 (List.mem_range.2 hj)
          rw [hun, he] at h6; simpa using h6
        · exact absurd hun (by
            have := hsz
            simp [Array.getElem?_eq_none (show listed.size ≤ j by omega)])
      have hkr : k ∈ Region.ready .any ops listed := by simpa using h3.1
      obtain ⟨_, ok, hok, _⟩ := mem_ready.1 hkr
      obtain ⟨v, hy, hK⟩ := gives_of_gOp hok ht g
      exact game_first hok (Region.noSelect_spec hs) l.length listed h a w hc h4 (Region.free_spec hok h3.2) hkr hy (game_of_walk hs l _ _ _ _ (by simpa using hsz) (hc.set hkr) h2 hK)

/-- A REGION THAT DRAWS ITS ORDER IS WALKED IN ONE. -/
theorem wp_region_sig {id : Nat} {ops : Array Oper} {Q : Exit → Act → World → Prop} {a : Act} {w : World} (T : Nat → Tag) (σ : List Nat) (hm : P.follows .mixedOrders = true)
    (hB : (Region.noSelect ops && decide (σ.length = ops.size) && orderOk ops T σ (Array.replicate ops.size false)) = true)
    (h : walkSig P ops T (fun a w => Q .normal a w) σ (fun _ _ _ => False) a w.drew) : (Code.region id ops true).wp P Q a w := by
  simp only [Bool.and_eq_true, decide_eq_true_eq] at hB
  obtain ⟨⟨h1, h2⟩, h3⟩ := hB
  refine wp_region_any hm (wpAny_of_game (T := T) (N := fun a w => Q .normal a w) (fun _ _ h => h) _ _ (fun _ _ _ => False) _ _ ?_)
  rw [← h2]
  refine game_of_walk h1 σ _ _ _ _ (by simpa using h2) (fun j o ho hl => ?_) (by rw [h2]; exact h3) h
  exfalso
  revert hl; rw [getD_replicate_false']; simp

section
variable {T : Nat → Tag} {N : Act → World → Prop} {k : Nat} {rest : List Nat} {o : Oper} {hd : Held} {a : Act} {w : World}
theorem sig_nil (h : N a w) : walkSig P ops T N [] hd a w := h
theorem sig_p (ho : ops[k]? = some o) (ht : T k = .p) (h : ∀ K : Act → Prop, (∀ a, walkSig P ops T N rest hd a w → K a) →
    if Region.wanted o (yielded ops a.tmps) then ∃ v, (∀ w', (execOp a.eval o).run P w' = .ok (.value v) w') ∧ K (a.put o.dst v) else K (a.put o.dst undef)) : walkSig P ops T N (k :: rest) hd a w := by
  unfold walkSig gOp; simp only [ho, ht, pStep]; exact h _ (fun _ h => h)
theorem sig_q (ho : ops[k]? = some o) (ht : T k = .q) (h : ∀ K : Act → Prop, (∀ a, walkSig P ops T N rest hd a w → K a) →
    if Region.wanted o (yielded ops a.tmps) then ∃ v, (execOp a.eval o).run P w = .ok (.value v) w ∧ K (a.put o.dst v) else K (a.put o.dst undef)) : walkSig P ops T N (k :: rest) hd a w := by
  unfold walkSig gOp; simp only [ho, ht, qStep]; exact h _ (fun _ h => h)
/-- a read that an effect may run ahead of: what it gave is remembered -/
theorem sig_r (ho : ops[k]? = some o) (ht : T k = .r) (hg : o.guard = none) (h : ∀ K : Sem Next → Value → Act → Prop, (∀ s v a, walkSig P ops T N rest (hd.put k s v) a w → K s v a) →
    ∃ v, (execOp a.eval o).run P w = .ok (.value v) w ∧ K (execOp a.eval o) v (a.put o.dst v)) : walkSig P ops T N (k :: rest) hd a w := by
  unfold walkSig gOp; simp only [ho, ht, rStep, Region.wanted, hg, if_true]
  exact h (fun s v a => walkSig P ops T N rest (hd.put k s v) a w) (fun _ _ _ h => h)
theorem sig_e0 (ho : ops[k]? = some o) (ht : T k = .e) (h : ∀ K : Act → World → Prop, (∀ a w, walkSig P ops T N rest (fun _ _ _ => False) a w → K a w) →
    if Region.wanted o (yielded ops a.tmps) then o.wp P a w K (fun _ _ _ => False) else K (a.put o.dst undef) w) : walkSig P ops T N (k :: rest) (fun _ _ _ => False) a w := by
  unfold walkSig gOp; simp only [ho, ht, eStep]
  have := h (walkSig P ops T N rest (fun _ _ _ => False)) (fun _ _ h => h)
  split at this
  · rename_i hw; rw [if_pos hw]; exact Oper.wp_mono (fun _ _ h => ⟨fun _ _ _ hf => hf.elim, h⟩) this
  · rename_i hw; rw [if_neg hw]; exact this
theorem sig_e (ho : ops[k]? = some o) (ht : T k = .e) (hg : o.guard = none) (h : ∀ K : Act → World → Prop, (∀ a w, hd.keeps P ops k w → walkSig P ops T N rest hd a w → K a w) →
    o.wp P a w K (fun _ _ _ => False)) : walkSig P ops T N (k :: rest) hd a w := by
  unfold walkSig gOp; simp only [ho, ht, eStep, Region.wanted, hg, if_true]
  exact h _ (fun _ _ h1 h2 => ⟨h1, h2⟩)
theorem keeps_none {P : Program} {ops : Array Oper} {i : Nat} {w : World} : Held.keeps P ops (fun _ _ _ => False) i w := fun _ _ _ hf => hf.elim
theorem keeps_put {P : Program} {ops : Array Oper} {h : Held} {r : Nat} {s : Sem Next} {v : Value} {i : Nat} {w : World} (h1 : s.run P w = .ok (.value v) w) (h2 : h.keeps P ops i w) : (h.put r s v).keeps P ops i w := fun r' s' u hr hw => by
  rcases hr with hr | ⟨_, rfl, rfl⟩
  · exact h2 _ _ _ hr hw
  · exact h1
theorem keeps_waits {P : Program} {ops : Array Oper} {h : Held} {r : Nat} {s : Sem Next} {v : Value} {i : Nat} {w : World} (h1 : waits ops ops.size i r = true) (h2 : h.keeps P ops i w) : (h.put r s v).keeps P ops i w := fun r' s' u hr hw => by
  rcases hr with hr | ⟨rfl, rfl, rfl⟩
  · exact h2 _ _ _ hr hw
  · rw [h1] at hw; cases hw
end
/-- tags by digits -/
def tg (l : List Nat) (k : Nat) : Tag := match l[k]? with | some 0 => .p | some 1 => .q | some 2 => .r | _ => .e
end Go.Proofs.Ytjbalcfdenaneaa.Mu
