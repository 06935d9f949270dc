/- A walk by symbols over the given program, a part of it: lemmas alone; what is claimed stands in the last text. No conditions of its own. -/
import Derived.Test.YtneddobmlcbabaaWaB
import Derived.Orders
set_option linter.unusedVariables false
set_option linter.unusedSimpArgs false
set_option linter.unusedVariables false
set_option linter.unusedSimpArgs false
namespace Go.SE
open Go.RowKit

/-! ### regions that draw their order -/
/-- One operation comes up. -/
def opG (P : Program) (ops : Array Oper) (i : Nat) (K : Act → World → Prop) (a : Act) (w : World) : Prop :=
  match ops[i]? with
  | none => K a w
  | some o => (Region.wanted o (yielded ops a.tmps) = false ∧ K (a.put o.dst undef) w) ∨ (Region.wanted o (yielded ops a.tmps) = true ∧ (∀ c, o.op ≠ .defer c) ∧
      ((∃ r v w', (execOp a.eval o).run P w = .ok r w' ∧ (r = .value v ∨ (r = .skip ∧ v = undef)) ∧ K (a.put o.dst v) w') ∨
       (∃ f args, (execOp a.eval o).run P w = .ok (.enter f args) w ∧ Calls P f args w fun e w'' => ∃ v, e = .returned v ∧ K (a.put o.dst v) w'')))
section
variable {P : Program} {ops : Array Oper} {K K' : Act → World → Prop} {a : Act} {w : World} {md : Region.Mode}
theorem opG_mono {i : Nat} (h : ∀ a w, K a w → K' a w) (hh : opG P ops i K a w) : opG P ops i K' a w := by
  unfold opG at *
  split
  · rename_i hn; simp only [hn] at hh; exact h _ _ hh
  · rename_i o ho
    simp only [ho] at hh
    rcases hh with ⟨h1, h2⟩ | ⟨h1, h2, ⟨r, v, w', h3, h4, h5⟩ | ⟨f, args, h3, h4⟩⟩
    · exact .inl ⟨h1, h _ _ h2⟩
    · exact .inr ⟨h1, h2, .inl ⟨r, v, w', h3, h4, h _ _ h5⟩⟩
    · exact .inr ⟨h1, h2, .inr ⟨f, args, h3, h4.mono fun e w'' ⟨v, e1, e2⟩ => ⟨v, e1, h _ _ e2⟩⟩⟩
/-- The operations in this order. -/
def opsG (P : Program) (ops : Array Oper) (Q : Act → World → Prop) : List Nat → Act → World → Prop
  | [], a, w => Q a w
  | i :: r, a, w => opG P ops i (opsG P ops Q r) a w
theorem gs_ops {b : Frame} {G : Act → List Item → World → Prop} (hG : Closed P b G) {k : List Item} : ∀ (l : List Nat) (a : Act) (w : World), opsG P ops (fun a w => G a k w) l a w → G a (.inRegion ops l :: k) w
  | [], a, w, h => hG.step (fun cs => stepR_region_end) h
  | i :: r, a, w, h => by
    simp only [opsG, opG] at h
    split at h
    · rename_i hn
      refine hG.step (fun cs => stepR_op_skip (by simp [hn])) ?_
      simp only [hn, Option.bind_none]
      exact gs_ops hG r a w h
    · rename_i o ho
      rcases h with ⟨h1, h2⟩ | ⟨h1, h2, ⟨rr, v, w', h3, h4, h5⟩ | ⟨f, args, h3, h4⟩⟩
      · refine hG.step (fun cs => stepR_op_skip (by simp [ho, h1])) ?_
        simp only [ho, Option.bind_some]
        exact gs_ops hG r _ w h2
      · exact hG.step (step_value h2 ho h1 h3 h4) (gs_ops hG r _ w' h5)
      · exact hG.call ho h1 h2 h3 h4 fun e w'' ⟨v, e1, e2⟩ => ⟨v, e1, gs_ops hG r _ w'' e2⟩
/-- In whatever order; each step leaves the world as R lets it. -/
def anyG (P : Program) (md : Region.Mode) (ops : Array Oper) (R : Nat → World → World → Prop) (Q : Act → World → Prop) : Nat → Array Bool → Act → World → Prop
  | 0, listed, a, w => Region.ready md ops listed = [] ∧ Q a w
  | n + 1, listed, a, w => (Region.ready md ops listed = [] → Q a w) ∧ ∀ i ∈ Region.ready md ops listed, opG P ops i (fun a' w' => R i w w' ∧ anyG P md ops R Q n (listed.setIfInBounds i true) a' w') a w
theorem anyG_sound {R : Nat → World → World → Prop} {Q : Act → World → Prop} : ∀ (fuel t : Nat) (listed : Array Bool) (a : Act) (w : World), anyG P md ops R Q fuel listed a w → opsG P ops Q (Region.linearise.go md ops fuel t listed []) a w := by
  intro fuel
  induction fuel with
  | zero => intro t listed a w h; simpa [Region.linearise.go, opsG] using h.2
  | succ fuel ih =>
    intro t listed a w h
    obtain ⟨h₀, h₁⟩ := h
    simp only [Region.linearise.go]
    change opsG P ops Q (match (Region.ready md ops listed)[t % (Region.ready md ops listed).length]? with
      | some i => Region.linearise.go md ops fuel (t / (Region.ready md ops listed).length) (listed.setIfInBounds i true) [i]
      | none => [].reverse) a w
    cases hi : (Region.ready md ops listed)[t % (Region.ready md ops listed).length]? with
    | none =>
      have hnil : Region.ready md ops listed = [] := by
        cases hr : Region.ready md ops listed with
        | nil => rfl
        | cons x xs =>
          rw [hr] at hi
          have hlt : t % (x :: xs).length < (x :: xs).length := Nat.mod_lt _ (by simp)
          simp at hi
          simp at hlt
          omega
      simpa [opsG] using h₀ hnil
    | some i =>
      simp only []
      rw [linearise_go_acc, List.reverse_singleton, List.singleton_append]
      exact opG_mono (fun a w h => ih _ _ a w h.2) (h₁ i (List.mem_of_getElem? hi))
/-- In every world that R lets come: this value. -/
def YieldsR (P : Program) (ops : Array Oper) (R : World → World → Prop) (o : Oper) (v : Value) (a : Act) (w : World) : Prop :=
  (Region.wanted o (yielded ops a.tmps) = true ∧ (∀ c, o.op ≠ .defer c) ∧ ∀ w', R w w' → (execOp a.eval o).run P w' = .ok (.value v) w') ∨ (Region.wanted o (yielded ops a.tmps) = false ∧ v = undef)
theorem opG_put {i j : Nat} {oi oj : Oper} {v : Value} (hj : ops[j]? = some oj) (hap : oi.apart ops oj = true) (hsi : ∀ cs b, oi.op ≠ .select cs b) (hsj : ∀ cs b, oj.op ≠ .select cs b) (h : opG P ops j K (a.put oi.dst v) w) :
    opG P ops j (fun a' w' => (execOp a'.eval oi = execOp a.eval oi ∧ Region.wanted oi (yielded ops a'.tmps) = Region.wanted oi (yielded ops a.tmps)) ∧ K (a'.put oi.dst v) w') a w := by
  obtain ⟨h1, h2, h3⟩ := Oper.apart_spec hap
  have keep : ∀ u, execOp (a.put oj.dst u).eval oi = execOp a.eval oi ∧ Region.wanted oi (yielded ops (a.put oj.dst u).tmps) = Region.wanted oi (yielded ops a.tmps) := fun u =>
    ⟨execOp_put oi hsi a oj.dst u h3, wanted_put oi a oj.dst u h3⟩
  unfold opG at *
  simp only [hj] at *
  rw [wanted_put oj a oi.dst v h1, execOp_put oj hsj a oi.dst v h1] at h
  rcases h with ⟨g1, g2⟩ | ⟨g1, g2, ⟨r, u, w', g3, g4, g5⟩ | ⟨f, args, g3, g4⟩⟩
  · exact .inl ⟨g1, keep _, by rw [← Act.put_comm a v undef h2]; exact g2⟩
  · exact .inr ⟨g1, g2, .inl ⟨r, u, w', g3, g4, keep u, by rw [← Act.put_comm a v u h2]; exact g5⟩⟩
  · exact .inr ⟨g1, g2, .inr ⟨f, args, g3, g4.mono fun e w'' ⟨u, e1, e2⟩ => ⟨u, e1, keep u, by rw [← Act.put_comm a v u h2]; exact e2⟩⟩⟩
theorem YieldsR.opG {R : World → World → Prop} (hR : ∀ w, R w w) {i : Nat} {o : Oper} {v : Value} (hi : ops[i]? = some o) (hy : YieldsR P ops R o v a w) (h : K (a.put o.dst v) w) : opG P ops i K a w := by
  unfold SE.opG
  simp only [hi]
  rcases hy with ⟨h1, h2, h3⟩ | ⟨h1, rfl⟩
  · exact .inr ⟨h1, h2, .inl ⟨_, v, w, h3 w (hR w), .inl rfl, h⟩⟩
  · exact .inl ⟨h1, h⟩
/-- What yields the same whatever may come ahead of it may be taken first. -/
theorem anyG_first {R : Nat → World → World → Prop} {V : World → World → Prop} (hR : ∀ i w, R i w w) (hV : ∀ w, V w w) (hRt : ∀ {w1 w2 w3}, V w1 w2 → V w2 w3 → V w1 w3) {Q : Act → World → Prop} {i : Nat} {oi : Oper} {v : Value} (hi : ops[i]? = some oi) (hsel : ∀ (j : Nat) (o : Oper) cs b, ops[j]? = some o → o.op ≠ .select cs b)
    (Inv : Array Bool → Prop) (hInv : ∀ l j, Inv l → j ∈ Region.ready md ops l → j ≠ i → (∀ w w', R j w w' → V w w') ∧ Inv (l.setIfInBounds j true)) :
    ∀ (fuel : Nat) (listed : Array Bool) (a : Act) (w : World), Inv listed →
      (∀ j oj, ops[j]? = some oj → j ≠ i → listed.getD j true = false → (∀ e ∈ oj.after, Region.binds md e = true → e.on ≠ i) → oi.apart ops oj = true) →
      i ∈ Region.ready md ops listed → YieldsR P ops V oi v a w →
      anyG P md ops R Q fuel (listed.setIfInBounds i true) (a.put oi.dst v) w → anyG P md ops R Q (fuel + 1) listed a w := by
  intro fuel
  induction fuel with
  | zero =>
    intro listed a w _ _ hr hy H
    refine ⟨fun h => (by rw [h] at hr; cases hr), fun j hj => ?_⟩
    by_cases hji : j = i
    · subst hji; exact hy.opG hV hi ⟨hR _ w, H⟩
    · have := ready_mono hj hji
      rw [H.1] at this
      cases this
  | succ fuel ih =>
    intro listed a w hinv hfree hr hy H
    refine ⟨fun h => (by rw [h] at hr; cases hr), fun j hj => ?_⟩
    by_cases hji : j = i
    · subst hji; exact hy.opG hV hi ⟨hR _ w, H⟩
    · have h1 := H.2 j (ready_mono hj hji)
      obtain ⟨hsub, hinv2⟩ := hInv listed j hinv hj hji
      obtain ⟨hjun, oj, hoj, hall⟩ := mem_ready.1 hj
      have hnot : ∀ e ∈ oj.after, Region.binds md e = true → e.on ≠ i := fun e he hb heq => by
        have h1 := hall e he hb
        have h0 := (mem_ready.1 hr).1
        rw [heq] at h1
        rcases Nat.lt_or_ge i listed.size with h' | h'
        · simp [h'] at h0 h1; rw [h0] at h1; cases h1
        · simp [Array.getElem?_eq_none h'] at h1
      have h2 := opG_put (i := i) hoj (hfree j oj hoj hji hjun hnot) (fun cs b => hsel i oi cs b hi) (fun cs b => hsel j oj cs b hoj) h1
      have hfree' : ∀ k ok, ops[k]? = some ok → k ≠ i → (listed.setIfInBounds j true).getD k true = false →
          (∀ e ∈ ok.after, Region.binds md e = true → e.on ≠ i) → oi.apart ops ok = true := fun k ok hk hki hun hno => by
        refine hfree k ok hk hki ?_ hno
        by_cases hjk : j = k
        · subst hjk; exact hjun
        · rw [getD_set_ne true hjk] at hun; exact hun
      refine opG_mono (fun a' w' h3 => ?_) h2
      obtain ⟨⟨he, hw⟩, hRw, hK⟩ := h3
      refine ⟨hRw, ih (listed.setIfInBounds j true) a' w' hinv2 hfree' (ready_mono hr (Ne.symm hji)) ?_ ?_⟩
      · rcases hy with ⟨y1, y2, y3⟩ | ⟨y1, y2⟩
        · exact .inl ⟨by rw [hw]; exact y1, y2, fun w'' h => by rw [he]; exact y3 w'' (hRt (hsub _ _ hRw) h)⟩
        · exact .inr ⟨by rw [hw]; exact y1, y2⟩
      · rw [Array.setIfInBounds_comm _ _ hji]
        exact hK
/-- what can come up while i doesn't -/
def sinceS (ops : Array Oper) (listed : Array Bool) (i : Nat) : Nat → List Nat → List Nat
  | 0, S => S
  | n + 1, S => sinceS ops listed i n (S ++ (List.range ops.size).filter fun j => j != i && !(listed.getD j true) && !(S.contains j) && match ops[j]? with
      | some o => o.after.all fun e => !(Region.binds .any e) || listed.getD e.on false || S.contains e.on
      | none => false)
/-- it may write to memory that is told of -/
def mayW (o : Oper) : Bool := match o.op with
  | .store _ _ _ => true
  | .mapUpdate _ _ _ _ => true
  | .call { callee := .builtin .append, .. } => true
  | .call { callee := .value _, .. } => true
  | _ => false
def mayWi (ops : Array Oper) (i : Nat) : Bool := match ops[i]? with
  | some o => mayW o
  | none => false
/-- Nothing that may write can come up ahead of i. -/
def rdOk (ops : Array Oper) (listed : Array Bool) (i : Nat) : Bool :=
  let S := sinceS ops listed i ops.size []
  (S.all fun j => !(mayWi ops j)) && (List.range ops.size).all fun j => j == i || listed.getD j true || S.contains j || match ops[j]? with
    | some o => o.after.any fun e => Region.binds .any e && !(listed.getD e.on false) && !(S.contains e.on)
    | none => true
theorem rdOk_spec {listed : Array Bool} {i : Nat} (h : rdOk ops listed i = true) : ∃ Inv : Array Bool → Prop, Inv listed ∧ ∀ l j, Inv l → j ∈ Region.ready .any ops l → j ≠ i → mayWi ops j = false ∧ Inv (l.setIfInBounds j true) := by
  unfold rdOk at h
  generalize sinceS ops listed i ops.size [] = S at h
  simp only [Bool.and_eq_true, List.all_eq_true, Bool.not_eq_true', List.mem_range] at h
  obtain ⟨h1, h2⟩ := h
  refine ⟨fun l => l.size = listed.size ∧ (∀ k, listed.getD k true = true → l.getD k true = true) ∧ ∀ k, l.getD k false = true → listed.getD k false = true ∨ k ∈ S, ⟨rfl, fun k hk => hk, fun k hk => .inl hk⟩, fun l j hl hj hji => ?_⟩
  obtain ⟨l1, l2, l3⟩ := hl
  obtain ⟨hjun, o, ho, hall⟩ := mem_ready.1 hj
  have hjS : j ∈ S := by
    have := h2 j (Array.getElem?_eq_some_iff.1 ho).1
    simp only [Bool.or_eq_true, beq_iff_eq, hji, false_or, ho, List.contains_iff_mem] at this
    rcases this with (h | h) | h
    · have := l2 j h
      rw [hjun] at this; cases this
    · exact h
    · obtain ⟨e, he, hb⟩ := Array.any_eq_true'.1 h
      simp only [Bool.and_eq_true, Bool.not_eq_true'] at hb
      obtain ⟨⟨b1, b2⟩, b3⟩ := hb
      rcases l3 e.on (hall e he b1) with h | h
      · rw [h] at b2; cases b2
      · have : S.contains e.on = true := by simpa using h
        rw [this] at b3; cases b3
  refine ⟨h1 j hjS, by simp [l1], fun k hk => ?_, fun k hk => ?_⟩
  · have := l2 k hk
    by_cases hjk : j = k
    · subst hjk
      rw [this] at hjun; cases hjun
    · rw [getD_set_ne true hjk]; exact this
  · by_cases hjk : j = k
    · subst hjk; exact .inr hjS
    · rw [getD_set_ne false hjk] at hk
      exact l3 k hk
theorem gs_region (hm : P.follows .mixedOrders = true) {b : Frame} {G : Act → List Item → World → Prop} (hG : Closed P b G) {R : Nat → World → World → Prop} {id : Nat} {k : List Item} (h : anyG P .any ops R (fun a w => G a k w) ops.size (Array.replicate ops.size false) a { w with drawn := w.drawn + 1 }) :
    G a (.code (.region id ops true) :: k) w := by
  refine hG.step (fun cs => stepR_region_draw) (gs_ops hG _ _ _ ?_)
  simp only [Region.schedule, hm, Bool.true_or, if_true]
  exact anyG_sound ops.size _ _ a _ h

/-! plans: in which order to look -/
inductive Plan where
  | d
  | t (i : Nat) (p : Plan)
  | r (i : Nat) (p : Plan)
  | o (i : Nat) (p : Plan)
  | f (i : Nat) (p : Plan) (j : Nat) (q : Plan)
  | w (p : Plan)
def planB (ops : Array Oper) : Nat → Plan → Array Bool → Bool
  | _, .d, listed => Region.ready .any ops listed == []
  | n + 1, .t i p, listed => (Region.ready .any ops listed).contains i && Region.free .any ops listed i && planB ops n p (listed.setIfInBounds i true)
  | n + 1, .r i p, listed => (Region.ready .any ops listed).contains i && Region.free .any ops listed i && rdOk ops listed i && planB ops n p (listed.setIfInBounds i true)
  | n + 1, .o i p, listed => Region.ready .any ops listed == [i] && planB ops n p (listed.setIfInBounds i true)
  | n + 1, .f i p j q, listed => Region.ready .any ops listed == [i, j] && planB ops n p (listed.setIfInBounds i true) && planB ops n q (listed.setIfInBounds j true)
  | n, .w p, listed => planB ops n p listed
  | 0, _, _ => false
end

/-- Nothing but Wr, of what was there, turns. -/
def RW (Wr : Nat → Prop) (w w' : World) : Prop := w'.os = w.os ∧ w'.tape = w.tape ∧ w'.output = w.output ∧ w.heap.size ≤ w'.heap.size ∧ ∀ b, b < w.heap.size → ¬ Wr b → w'.heap[b]? = w.heap[b]?
theorem RW.refl (Wr : Nat → Prop) (w : World) : RW Wr w w := ⟨rfl, rfl, rfl, Nat.le_refl _, fun _ _ _ => rfl⟩
theorem RW.trans {Wr : Nat → Prop} {w1 w2 w3 : World} (h : RW Wr w1 w2) (k : RW Wr w2 w3) : RW Wr w1 w3 :=
  ⟨k.1.trans h.1, k.2.1.trans h.2.1, k.2.2.1.trans h.2.2.1, Nat.le_trans h.2.2.2.1 k.2.2.2.1, fun b hb hW => (k.2.2.2.2 b (Nat.lt_of_lt_of_le hb h.2.2.2.1) hW).trans (h.2.2.2.2 b hb hW)⟩
def RWo (ops : Array Oper) (Wr : Nat → Prop) (i : Nat) : World → World → Prop := RW fun b => Wr b ∧ mayWi ops i = true
theorem RWo.rw {ops : Array Oper} {Wr : Nat → Prop} {i : Nat} {w w' : World} (h : RWo ops Wr i w w') : RW Wr w w' := ⟨h.1, h.2.1, h.2.2.1, h.2.2.2.1, fun b hb hW => h.2.2.2.2 b hb fun h' => hW h'.1⟩
theorem RWo.of {ops : Array Oper} {Wr : Nat → Prop} {i : Nat} {w w' : World} (h : RW Wr w w') (hm : mayWi ops i = true) : RWo ops Wr i w w' := ⟨h.1, h.2.1, h.2.2.1, h.2.2.2.1, fun b hb hW => h.2.2.2.2 b hb fun h' => hW ⟨h', hm⟩⟩
theorem RWo.none {ops : Array Oper} {Wr : Nat → Prop} {i : Nat} {w w' : World} (h : RWo ops Wr i w w') (hm : mayWi ops i = false) : RW (fun _ => False) w w' := ⟨h.1, h.2.1, h.2.2.1, h.2.2.2.1, fun b hb _ => h.2.2.2.2 b hb fun h' => by rw [hm] at h'; cases h'.2⟩
def St.drop (st : St) (W : List Nat) : St := { st with ob := st.ob.filter fun x => !W.contains x.1 }
theorem nth_drop (ob : List (Nat × Ob)) (W : List Nat) (i : Nat) : nth (ob.filter fun x => !W.contains x.1) i = if W.contains i then none else nth ob i := by
  induction ob with
  | nil => simp [nth]
  | cons x r ih =>
    obtain ⟨k, o⟩ := x
    simp only [List.filter_cons]
    by_cases hk : k = i
    · subst hk
      by_cases hw : W.contains k = true
      · simp only [hw, Bool.not_true, Bool.false_eq_true, if_false, if_true] at *
        exact ih
      · simp only [hw, Bool.not_false, if_true, nth]
        simp
    · by_cases hw : W.contains k = true
      · simp only [hw, Bool.not_true, Bool.false_eq_true, if_false, nth, hk]
        exact ih
      · simp only [hw, Bool.not_false, if_true, nth, hk, if_false]
        exact ih
/-- Wr is just what the objects of W have. -/
structure HW (W : List Nat) (Wr : Nat → Prop) (st : St) (E : Env) (w : World) : Prop where
  into : ∀ b, b < w.heap.size → Wr b → ∃ i o, W.contains i = true ∧ nth st.ob i = some o ∧ blk E i o = some b
  of : ∀ i o b, W.contains i = true → nth st.ob i = some o → blk E i o = some b → Wr b
section
variable {P : Program} {T : List (Nat × TI)} {XC X0 : Nat → Prop} {w0 : World} {b : Frame} {st : St} {E : Env} {a : Act} {w w' : World}
theorem Models.ext (hM : Models XC X0 w0 st E a w) {W : List Nat} {Wr : Nat → Prop} (hW : HW W Wr st E w) (hR : RW Wr w w') : Models XC X0 w0 (st.drop W) E a w' := by
  obtain ⟨r1, r2, r3, r4, r5⟩ := hR
  have hm := hM.mem
  have back : ∀ i o, nth (st.drop W).ob i = some o → nth st.ob i = some o ∧ W.contains i = false := fun i o h => by
    simp only [St.drop, nth_drop] at h
    split at h
    · simp at h
    · rename_i hw; exact ⟨h, by simpa using hw⟩
  have hhas : ∀ b, Has E (st.drop W).ob b → Has E st.ob b := fun b ⟨i, o, h, hb⟩ => ⟨i, o, (back i o h).1, hb⟩
  have nW : ∀ i o b, nth st.ob i = some o → W.contains i = false → blk E i o = some b → ¬ Wr b := fun i o b h1 h2 h3 h4 => by
    obtain ⟨j, o', g1, g2, g3⟩ := hW.into b (hm.lt b ⟨i, o, h1, h3⟩).1 h4
    rw [hm.ne i j o o' b h1 g2 h3 g3] at h2
    rw [h2] at g1; cases g1
  have nX : ∀ b, b < w.heap.size → ¬ Ex XC E st.ob b → ¬ Wr b := fun b hlt h1 h2 => by
    obtain ⟨j, o', _, g2, g3⟩ := hW.into b hlt h2
    exact h1 (.inl ⟨j, o', g2, g3⟩)
  have mv : ∀ u, Ok st.no (Ex XC E st.ob) w u → Ok st.no (Ex XC E (st.drop W).ob) w' u := fun u hu =>
    hu.move (Nat.le_refl _) r4 fun b hb hX => ⟨fun h => hX (h.imp (hhas b) id), r5 b hb (nX b hb hX)⟩
  refine ⟨⟨⟨r1.trans hm.fr.os, r2.trans hm.fr.tape, r3.trans hm.fr.output, Nat.le_trans hm.fr.size r4, fun b hb hX => ?_⟩, fun i o h => ?_, fun b h => ?_, fun i j o o' b h h' => hm.ne i j o o' b (back i o h).1 (back j o' h').1, fun i o h => hm.no i o (back i o h).1, fun i o h => (hm.oko i o (back i o h).1).move mv, hm.unk, hm.val⟩, hM.cur.move (Nat.le_refl _) (EnvEq.refl _ _) mv, fun s hs => (hM.sus s hs).move (Nat.le_refl _) (EnvEq.refl _ _) mv⟩
  · rw [r5 b (Nat.lt_of_lt_of_le hb hm.fr.size)]
    · exact hm.fr.block b hb hX
    · intro h
      obtain ⟨j, o', _, g2, g3⟩ := hW.into b (Nat.lt_of_lt_of_le hb hm.fr.size) h
      rcases (hm.lt b ⟨j, o', g2, g3⟩).2 with h' | h'
      · exact hX h'
      · omega
  · obtain ⟨h1, h2⟩ := back i o h
    exact (hm.ob i o h1).keep (hm.oko i o h1) (hm.no i o h1) (EnvEq.refl _ _) fun b hb => r5 b (hm.lt b ⟨i, o, h1, hb⟩).1 (nW i o b h1 h2 hb)
  · have := hm.lt b (hhas b h)
    exact ⟨Nat.lt_of_lt_of_le this.1 r4, this.2⟩
def kindEq : Option Ob → Option Ob → Bool
  | some (.cells ..), some (.cells ..) => true
  | some (.row ..), some (.row ..) => true
  | some (.mp ..), some (.mp ..) => true
  | _, _ => false
def wroteIn (W : List Nat) (st : St) (o : Oper) : Bool := match wrote st o with
  | none => true
  | some i => W.contains i
def okW (W : List Nat) (st st' : St) : Bool := W.all fun i => kindEq (nth st.ob i) (nth st'.ob i)
def kindEq2 : Option Ob → Option Ob → Bool
  | some (.cells ..), some (.cells ..) => true
  | some (.row ..), some (.row ..) => true
  | some (.mp ..), some (.mp ..) => true
  | _, some .gone => true
  | _, _ => false
def okW2 (W : List Nat) (st st' : St) : Bool := W.all fun i => kindEq2 (nth st.ob i) (nth st'.ob i)
/-- Wr has all that the objects of W have; strongly (m): nothing else; where new memory counts (z): all of that too. -/
structure HWm (z m : Bool) (W : List Nat) (Wr : Nat → Prop) (st : St) (E : Env) (w : World) : Prop where
  of : ∀ i o b, W.contains i = true → nth st.ob i = some o → blk E i o = some b → Wr b
  into : m = true → ∀ b, (z = false ∨ b < w.heap.size) → Wr b → ∃ i o, W.contains i = true ∧ nth st.ob i = some o ∧ blk E i o = some b
  fr : z = true → ∀ b, w.heap.size ≤ b → Wr b
theorem HWm.hw {z : Bool} {W : List Nat} {Wr : Nat → Prop} (h : HWm z true W Wr st E w) : HW W Wr st E w := ⟨fun b hb => h.into rfl b (.inr hb), h.of⟩
def stepB (z m : Bool) (W : List Nat) (st st' : St) (o : Oper) : Bool := match z with
  | true => (match m with
    | true => false
    | false => wroteIn W st o)
  | false => (if m then okW W st st' else okW2 W st st') && wroteIn W st o
theorem HWm.step {o : Oper} {st' : St} {E' : Env} {z m : Bool} {W : List Nat} {Wr : Nat → Prop} (hm : Mem XC X0 w0 st.ob st.no E w) (hW : HWm z m W Wr st E w) (h : stepB z m W st st' o = true) (he : EnvEq st.no E E') (hs : w.heap.size ≤ w'.heap.size) (hf : Fresh st.ob st'.ob E E' w (wrow st E o)) : HWm z m W Wr st' E' w' := by
  have inW : ∀ b, wroteIn W st o = true → wrow st E o = some b → Wr b := fun b h2 e => by
    unfold wrow at e
    unfold wroteIn at h2
    cases hwr : wrote st o with
    | none => rw [hwr] at e; cases e
    | some j =>
      rw [hwr] at e h2
      simp only [Option.bind_some] at e
      cases hn : nth st.ob j with
      | none => rw [hn] at e; cases e
      | some oj => rw [hn] at e; exact hW.of j oj b h2 hn e
  cases z with
  | true =>
    cases m with
    | true => simp [stepB] at h
    | false =>
      refine ⟨fun i o' b hi ho hb => ?_, fun h => (by cases h), fun _ b hb => hW.fr rfl b (Nat.le_trans hs hb)⟩
      rcases hf i o' b ho hb with ⟨o1, h1, h2⟩ | h1 | h1
      · exact hW.of i o1 b hi h1 h2
      · exact hW.fr rfl b h1
      · exact inW b (by simpa [stepB] using h) h1
  | false =>
    simp only [stepB, Bool.and_eq_true] at h
    obtain ⟨h, hwr⟩ := h
    cases m with
    | true =>
      have h : okW W st st' = true := by simpa using h
      have key : ∀ i, W.contains i = true → ∃ o o', nth st.ob i = some o ∧ nth st'.ob i = some o' ∧ blk E' i o' = blk E i o := fun i hi => by
        have hk := List.all_eq_true.1 h i (by simpa using hi)
        cases h1 : nth st.ob i with
        | none => rw [h1] at hk; simp [kindEq] at hk
        | some o =>
          cases h2 : nth st'.ob i with
          | none => rw [h1, h2] at hk; cases o <;> simp [kindEq] at hk
          | some o' =>
            rw [h1, h2] at hk
            have hlt := he i (hm.no i o h1)
            refine ⟨o, o', rfl, rfl, ?_⟩
            cases o <;> cases o' <;> simp [kindEq] at hk <;> simp [blk, hlt.1, hlt.2.1]
      refine ⟨fun i o b hi ho hb => ?_, fun _ b _ hb => ?_, fun h => by cases h⟩
      · obtain ⟨p, p', g1, g2, g3⟩ := key i hi
        rw [ho] at g2; simp at g2; subst g2
        exact hW.of i p b hi g1 (by rw [← g3]; exact hb)
      · obtain ⟨i, o, h1, h2, h3⟩ := hW.into rfl b (.inl rfl) hb
        obtain ⟨p, p', g1, g2, g3⟩ := key i h1
        rw [h2] at g1; simp at g1; subst g1
        exact ⟨i, p', h1, g2, by rw [g3]; exact h3⟩
    | false =>
      refine ⟨fun i o' b hi ho hb => ?_, fun h => (by cases h), fun h => by cases h⟩
      have hk := List.all_eq_true.1 (show okW2 W st st' = true by simpa using h) i (by simpa using hi)
      cases o' with
      | gone => simp [blk] at hb
      | cells cs t =>
        cases h1 : nth st.ob i with
        | none => rw [h1, ho] at hk; simp [kindEq2] at hk
        | some o =>
          rw [h1, ho] at hk
          cases o <;> simp [kindEq2] at hk
          exact hW.of i _ b hi h1 (by rw [← hb]; simp [blk, (he i (hm.no i _ h1)).1])
      | row e k n el =>
        cases h1 : nth st.ob i with
        | none => rw [h1, ho] at hk; simp [kindEq2] at hk
        | some o =>
          rw [h1, ho] at hk
          cases o <;> simp [kindEq2] at hk
          exact hW.of i _ b hi h1 (by rw [← hb]; simp [blk, (he i (hm.no i _ h1)).2.1])
      | mp kk es =>
        cases h1 : nth st.ob i with
        | none => rw [h1, ho] at hk; simp [kindEq2] at hk
        | some o =>
          rw [h1, ho] at hk
          cases o <;> simp [kindEq2] at hk
          exact hW.of i _ b hi h1 (by rw [← hb]; simp [blk, (he i (hm.no i _ h1)).1])
      | mark | lp =>
        cases h1 : nth st.ob i with
        | none => rw [h1, ho] at hk; simp [kindEq2] at hk
        | some o => rw [h1, ho] at hk; cases o <;> simp [kindEq2] at hk
/-- one operation, of those that stand alone -/
inductive E1 where
  | ok (st : St)
  | need (q : Prop) (st : St)
  | call (f : Nat) (args : List SV) (d : Option Tmp)
  | no
def only1 (T : List (Nat × TI)) (z m : Bool) (W : List Nat) (gd : List (Nat × Bool)) (st : St) (o : Oper) : E1 :=
  if freshd gd o.dst = true then
    match exec T st o with
    | .ok st' => if stepB z m W st st' o = true then .ok st' else .no
    | .need q st' => if stepB z m W st st' o = true then .need q st' else .no
    | .call f args => if z && m then .no else .call f args o.dst
    | _ => .no
  else .no
/-- events -/
inductive EvP where
  | fin (st : St)
  | br (b : Bool) (m : Bool) (p : Plan) (g1 : List (Nat × Bool)) (s1 : St) (g2 : List (Nat × Bool)) (s2 : St)
  | need (q : Prop) (m : Bool) (p : Plan) (gd : List (Nat × Bool)) (st : St)
  | call (f : Nat) (args : List SV) (d : Option Tmp) (m : Bool) (p : Plan) (gd : List (Nat × Bool)) (st : St)
  | fork (m : Bool) (i : Nat) (p : Plan) (j : Nat) (q : Plan) (gd : List (Nat × Bool)) (st : St)
  | at_ (m : Bool) (p : Plan) (gd : List (Nat × Bool)) (st : St)
  | no
/-- the operation's guard: met, not met, or this temporary decides -/
inductive GR where
  | yes | no | ask (t : Nat) (b : Bool) | bad
def guardR (ops : Array Oper) (gd : List (Nat × Bool)) (st : St) (o : Oper) : GR :=
  match o.guard with
  | none => .yes
  | some (j, want) =>
    match ops[j]? with
    | some { dst := some t, .. } =>
      match lookb gd t with
      | some b => match b == want with
        | true => .yes
        | false => .no
      | none =>
        if t < st.nt then
          match look st.tm t with
          | some (.v (.bool b)) => .ask t b
          | some (.v (.tuple _)) => .no
          | _ => .bad
        else .bad
    | _ => .bad
def runP (T : List (Nat × TI)) (ops : Array Oper) (W : List Nat) (z : Bool) : Bool → Plan → List (Nat × Bool) → St → EvP
  | _, .d, _, st => .fin st
  | false, .t _ _, _, _ => .no
  | m, .r i p, gd, st =>
    match ops[i]? with
    | none => .no
    | some o =>
      match guardR ops gd st o with
      | .yes =>
        if freshd gd o.dst = true ∧ loud o = false ∧ o.dst.isSome = true then
          match exec T st o with
          | .ok st1 => runP T ops W z m p gd st1
          | .need q st1 => .need q m p gd st1
          | _ => .no
        else .no
      | .no => if freshd gd o.dst = true then runP T ops W z m p gd (st.put o.dst (.v undef)) else .no
      | .ask t b => .br b m (.r i p) ((t, true) :: gd) { st with tm := (t, .v (.bool true)) :: st.tm } ((t, false) :: gd) { st with tm := (t, .v (.bool false)) :: st.tm }
      | .bad => .no
  | true, .t i p, gd, st =>
    match ops[i]? with
    | none => .no
    | some o =>
      match guardR ops gd st o with
      | .yes =>
        if freshd gd o.dst = true ∧ loud o = false ∧ o.dst.isSome = true then
          match exec T st o with
          | .ok st1 =>
            match exec T (st.drop W) o with
            | .ok _ => runP T ops W z true p gd st1
            | _ => .no
          | .need q st1 =>
            match exec T (st.drop W) o with
            | .need q' _ => .need (q ∧ q') true p gd st1
            | _ => .no
          | _ => .no
        else .no
      | .no => if freshd gd o.dst = true then runP T ops W z true p gd (st.put o.dst (.v undef)) else .no
      | .ask t b => .br b true (.t i p) ((t, true) :: gd) { st with tm := (t, .v (.bool true)) :: st.tm } ((t, false) :: gd) { st with tm := (t, .v (.bool false)) :: st.tm }
      | .bad => .no
  | m, .o i p, gd, st =>
    match ops[i]? with
    | none => .no
    | some o =>
      match guardR ops gd st o with
      | .yes =>
        match only1 T z m W gd st o with
        | .ok st' => runP T ops W z m p gd st'
        | .need q st' => .need q m p gd st'
        | .call f args d => if pures args then .call f args d m p gd st else .at_ m (.o i p) gd st
        | .no => .no
      | .no => if freshd gd o.dst = true then runP T ops W z m p gd (st.put o.dst (.v undef)) else .no
      | .ask t b => .br b m (.o i p) ((t, true) :: gd) { st with tm := (t, .v (.bool true)) :: st.tm } ((t, false) :: gd) { st with tm := (t, .v (.bool false)) :: st.tm }
      | .bad => .no
  | m, .f i p j q, gd, st => .fork m i p j q gd st
  | _, .w p, gd, st => runP T ops W z false p gd st

def DS (P : Program) (XC X0 : Nat → Prop) (w0 : World) (ops : Array Oper) (z : Bool) (W : List Nat) (G : Act → List Item → World → Prop) (k : List Item) (m : Bool) (p : Plan) (gd : List (Nat × Bool)) (st : St) : Prop :=
  ∀ Wr n listed E a w, planB ops n p listed = true → Models XC X0 w0 st E a w → GdOk gd a → HWm z m W Wr st E w → anyG P .any ops (RWo ops Wr) (fun a w => G a k w) n listed a w
/-- Operation i comes up now; p then. -/
def D1 (P : Program) (XC X0 : Nat → Prop) (w0 : World) (ops : Array Oper) (z : Bool) (W : List Nat) (G : Act → List Item → World → Prop) (k : List Item) (m : Bool) (i : Nat) (p : Plan) (gd : List (Nat × Bool)) (st : St) : Prop :=
  ∀ Wr n (listed : Array Bool) E a w, planB ops n p (listed.setIfInBounds i true) = true → Models XC X0 w0 st E a w → GdOk gd a → HWm z m W Wr st E w → opG P ops i (fun a' w' => RWo ops Wr i w w' ∧ anyG P .any ops (RWo ops Wr) (fun a w => G a k w) n (listed.setIfInBounds i true) a' w') a w
def EvPOk (P : Program) (XC X0 : Nat → Prop) (w0 : World) (ops : Array Oper) (z : Bool) (W : List Nat) (G : Act → List Item → World → Prop) (k : List Item) : EvP → Prop
  | .fin st => SG XC X0 w0 G k [] st
  | .br b m p g1 s1 g2 s2 => (b = true → DS P XC X0 w0 ops z W G k m p g1 s1) ∧ (b = false → DS P XC X0 w0 ops z W G k m p g2 s2)
  | .need q m p gd st => q ∧ DS P XC X0 w0 ops z W G k m p gd st
  | .call f args d m p gd st => ∃ (Y : Type) (res : Y → SV) (post : Y → Prop), PureC P f args Y res post ∧ ∀ y, post y → DS P XC X0 w0 ops z W G k m p gd (st.put d (res y))
  | .fork m i p j q gd st => D1 P XC X0 w0 ops z W G k m i p gd st ∧ D1 P XC X0 w0 ops z W G k m j q gd st
  | .at_ m p gd st => DS P XC X0 w0 ops z W G k m p gd st
  | .no => False
theorem HWm.put {z m : Bool} {W : List Nat} {Wr : Nat → Prop} (h : HWm z m W Wr st E w) (d : Option Tmp) (u : SV) : HWm z m W Wr (st.put d u) E w := by
  cases d <;> exact ⟨h.of, h.into, h.fr⟩
/-- .. and a world that has grown, where that may be. -/
theorem HWm.grown {z m : Bool} {W : List Nat} {Wr : Nat → Prop} (h : HWm z m W Wr st E w) (hz : (z && m) = false) (hs : w.heap.size ≤ w'.heap.size) : HWm z m W Wr st E w' := by
  refine ⟨h.of, fun hm b hb => ?_, fun hz' b hb => h.fr hz' b (Nat.le_trans hs hb)⟩
  subst hm
  cases z with
  | true => simp at hz
  | false => exact h.into rfl b (.inl rfl)
theorem RW.below {Wr : Nat → Prop} {w w'' : World} (hb : Below w.heap.size w w'') : RW Wr w w'' := ⟨hb.os, hb.tape, hb.output, hb.size, fun b h _ => hb.block b h⟩
theorem guardR_yes {ops : Array Oper} {gd : List (Nat × Bool)} {o : Oper} (h : guardR ops gd st o = .yes) (hgd : GdOk gd a) : Region.wanted o (yielded ops a.tmps) = true := by
  unfold guardR at h
  split at h
  · rename_i hg; exact wanted_none hg _
  · rename_i j want hg
    split at h
    · rename_i t op_ ty_ pos_ after_ gu_ hj
      split at h
      · rename_i bb hbb
        have hy : yielded ops a.tmps j = some bb := by simp [yielded, hj, hgd t bb hbb]
        split at h
        · rename_i heq; simp [Region.wanted, hg, hy]; simpa using heq
        · cases h
      · split at h
        · split at h <;> cases h
        · cases h
    · cases h
theorem guardR_no {ops : Array Oper} {gd : List (Nat × Bool)} {o : Oper} (h : guardR ops gd st o = .no) (hM : Models XC X0 w0 st E a w) (hgd : GdOk gd a) : Region.wanted o (yielded ops a.tmps) = false := by
  unfold guardR at h
  split at h
  · cases h
  · rename_i j want hg
    split at h
    · rename_i t op_ ty_ pos_ after_ gu_ hj
      split at h
      · rename_i bb hbb
        have hy : yielded ops a.tmps j = some bb := by simp [yielded, hj, hgd t bb hbb]
        split at h
        · cases h
        · rename_i heq; simp [Region.wanted, hg, hy]; simpa using heq
      · split at h
        · rename_i hlt
          split at h
          · cases h
          · rename_i vs hl
            have hv : a.tmps[t]? = _ := hM.cur.tm t _ hl hlt
            have hy : yielded ops a.tmps j = none := by simp [yielded, hj, hv, den]
            simp [Region.wanted, hg, hy]
          · cases h
        · cases h
    · cases h
theorem guardR_ask {ops : Array Oper} {gd : List (Nat × Bool)} {o : Oper} {t : Nat} {bb : Bool} (h : guardR ops gd st o = .ask t bb) (hM : Models XC X0 w0 st E a w) : a.tmps[t]? = some (.bool bb) := by
  unfold guardR at h
  split at h
  · cases h
  · split at h
    · split at h
      · split at h <;> cases h
      · split at h
        · rename_i hlt
          split at h
          · rename_i b2 hl
            cases h
            exact hM.cur.tm t _ hl hlt
          · cases h
          · cases h
        · cases h
    · cases h
theorem ask_ok {gd : List (Nat × Bool)} {t : Nat} {bb : Bool} (hv : a.tmps[t]? = some (.bool bb)) (hM : Models XC X0 w0 st E a w) (hgd : GdOk gd a) : Models XC X0 w0 { st with tm := (t, .v (.bool bb)) :: st.tm } E a w ∧ GdOk ((t, bb) :: gd) a :=
  ⟨hM.cons_tm hv, fun t' b' hb' => by
    simp only [lookb] at hb'
    split at hb'
    · rename_i he; subst he; simp at hb'; subst hb'; exact hv
    · exact hgd t' b' hb'⟩
theorem wrote_may {o : Oper} {i : Nat} (h : wrote st o = some i) : mayW o = true := by
  unfold wrote at h
  split at h
  · rename_i hop; simp [mayW, hop]
  · rename_i hop; simp [mayW, hop]
  · cases h
/-- an operation on its own -/
theorem only1_ok (C : Ctx P T) {ops : Array Oper} {z : Bool} {W : List Nat} {G : Act → List Item → World → Prop} {k : List Item} {i : Nat} {o : Oper} (ho : ops[i]? = some o) {m : Bool} {p : Plan} {gd : List (Nat × Bool)} {st : St}
    (hg : guardR ops gd st o = .yes)
    (h : match only1 T z m W gd st o with
      | .ok st' => DS P XC X0 w0 ops z W G k m p gd st'
      | .need q st' => q ∧ DS P XC X0 w0 ops z W G k m p gd st'
      | .call f args d => ∃ (Y : Type) (res : Y → SV) (post : Y → Prop), PureC P f args Y res post ∧ ∀ y, post y → DS P XC X0 w0 ops z W G k m p gd (st.put d (res y))
      | .no => False) (hXC : ∀ b, XC b → b < w0.heap.size) : D1 P XC X0 w0 ops z W G k m i p gd st := by
  intro Wr n listed E a w hp hM hgd hW
  have hw := guardR_yes hg hgd
  unfold opG
  simp only [ho]
  have hx := exec_ok C.tab C.eq hM o
  have key : ∀ st', stepB z m W st st' o = true → (exec T st o = .ok st' ∨ ∃ q, exec T st o = .need q st') → freshd gd o.dst = true → StepOk P XC X0 w0 st E a w o st' → DS P XC X0 w0 ops z W G k m p gd st' →
      (Region.wanted o (yielded ops a.tmps) = false ∧ (fun a' w' => RWo ops Wr i w w' ∧ anyG P .any ops (RWo ops Wr) (fun a w => G a k w) n (listed.setIfInBounds i true) a' w') (a.put o.dst undef) w) ∨ (Region.wanted o (yielded ops a.tmps) = true ∧ (∀ c, o.op ≠ .defer c) ∧
      ((∃ r v w', (execOp a.eval o).run P w = .ok r w' ∧ (r = .value v ∨ (r = .skip ∧ v = undef)) ∧ (fun a' w' => RWo ops Wr i w w' ∧ anyG P .any ops (RWo ops Wr) (fun a w => G a k w) n (listed.setIfInBounds i true) a' w') (a.put o.dst v) w') ∨
       (∃ f args, (execOp a.eval o).run P w = .ok (.enter f args) w ∧ Calls P f args w fun e w'' => ∃ v, e = .returned v ∧ (fun a' w' => RWo ops Wr i w w' ∧ anyG P .any ops (RWo ops Wr) (fun a w => G a k w) n (listed.setIfInBounds i true) a' w') (a.put o.dst v) w''))) := by
    intro st' h1 h3 hfd hs hk
    obtain ⟨r, v, E', w', g1, g2, g3, _, g5, g6, g7⟩ := hs
    have h2 : wroteIn W st o = true := by
      cases z <;> cases m <;> simp only [stepB, Bool.and_eq_true] at h1 <;> first | exact h1.2 | exact h1 | cases h1
    have hnd : ∀ c, o.op ≠ .defer c := fun c hc => by
      rw [exec_defer hc] at h3
      rcases h3 with h3 | ⟨_, h3⟩ <;> cases h3
    refine .inr ⟨hw, hnd, .inl ⟨r, v, w', g1, g2, ?_, hk Wr n _ E' _ w' hp g3 (gd_put hgd hfd v) (hW.step hM.mem h1 g6 g5.size g7)⟩⟩
    refine ⟨g5.os, g5.tape, g5.output, g5.size, fun b hb hWb => g5.block b hb fun e => hWb ⟨?_, by
      unfold wrow at e
      cases hwr : wrote st o with
      | none => rw [hwr] at e; cases e
      | some j => simp only [mayWi, ho]; exact wrote_may hwr⟩⟩
    unfold wrow at e
    unfold wroteIn at h2
    cases hwr : wrote st o with
    | none => rw [hwr] at e; cases e
    | some j =>
      rw [hwr] at e h2
      simp only [Option.bind_some] at e
      cases hn : nth st.ob j with
      | none => rw [hn] at e; cases e
      | some oj => rw [hn] at e; exact hW.of j oj b h2 hn e.symm
  unfold only1 at h
  by_cases hfd : freshd gd o.dst = true
  · rw [if_pos hfd] at h
    cases he : exec T st o with
    | ok st' =>
      rw [he] at h hx
      simp only at h
      by_cases hc : stepB z m W st st' o = true
      · rw [if_pos hc] at h
        exact key st' hc (.inl he) hfd hx h
      · rw [if_neg hc] at h; exact h.elim
    | need q st' =>
      rw [he] at h hx
      simp only at h
      by_cases hc : stepB z m W st st' o = true
      · rw [if_pos hc] at h
        exact key st' hc (.inr ⟨q, he⟩) hfd (hx h.1) h.2
      · rw [if_neg hc] at h; exact h.elim
    | call f args =>
      rw [he] at h hx
      simp only at h
      by_cases hzm : (z && m) = true
      · rw [if_pos hzm] at h; exact h.elim
      rw [if_neg hzm] at h
      have hzm : (z && m) = false := by simpa using hzm
      obtain ⟨Y, res, post, hc, hk⟩ := h
      obtain ⟨g1, g2⟩ := hx
      have hnd : ∀ c, o.op ≠ .defer c := fun c hc' => by rw [exec_defer hc'] at he; cases he
      refine .inr ⟨hw, hnd, .inr ⟨f, _, g1 _ (hc.ent _ _), ?_⟩⟩
      rw [dens_pure E args hc.pa]
      refine (hc.calls _ w (hM.exlt hXC) fun u hu => (g2 u hu).scope0 (pures_mem hc.pa u hu)).mono ?_
      rintro e w'' ⟨y, hy, rfl, hok, hbl⟩
      refine ⟨_, rfl, RW.below hbl, hk y hy Wr n _ E _ w'' hp ((hM.below hbl).put o.dst (u := res y) (hok.move (Nat.zero_le _) (Nat.le_refl _) fun b _ hX => ⟨hX, rfl⟩) (den_pure E _ (hc.pr y)).symm) (gd_put hgd hfd _) ((hW.grown hzm hbl.size).put _ _)⟩
    | yield | no => rw [he] at h; exact h.elim
  · rw [if_neg hfd] at h; exact h.elim
theorem ds_of_d1 {ops : Array Oper} {z : Bool} {W : List Nat} {G : Act → List Item → World → Prop} {k : List Item} {m : Bool} {i : Nat} {p : Plan} {gd : List (Nat × Bool)} {st : St} (h : D1 P XC X0 w0 ops z W G k m i p gd st) : DS P XC X0 w0 ops z W G k m (.o i p) gd st := by
  intro Wr n listed E a w hp hM hgd hW
  cases n with
  | zero => simp [planB] at hp
  | succ n =>
    simp only [planB, Bool.and_eq_true, beq_iff_eq] at hp
    refine ⟨fun h0 => by rw [h0] at hp; simp at hp, fun j hj => ?_⟩
    rw [hp.1] at hj
    simp only [List.mem_singleton] at hj
    subst hj
    exact h Wr n listed E a w hp.2 hM hgd hW
theorem runP_ok (C : Ctx P T) {ops : Array Oper} (hsel : Region.noSelect ops = true) {z : Bool} {W : List Nat} {G : Act → List Item → World → Prop} {k : List Item} (hXC : ∀ b, XC b → b < w0.heap.size) :
    ∀ (p : Plan) (m : Bool) (gd : List (Nat × Bool)) (st : St), EvPOk P XC X0 w0 ops z W G k (runP T ops W z m p gd st) → DS P XC X0 w0 ops z W G k m p gd st := by
  intro p
  induction p with
  | d =>
    intro m gd st h Wr n listed E a w hp hM hgd hW
    have hr : Region.ready .any ops listed = [] := by cases n <;> simpa [planB] using hp
    have hf := (show SG XC X0 w0 G k [] st by cases m <;> exact h) E a w hM (fun t b h => by simp [lookb] at h)
    cases n with
    | zero => exact ⟨hr, hf⟩
    | succ n => exact ⟨fun _ => hf, fun i hi => by rw [hr] at hi; cases hi⟩
  | t i p ih =>
    intro m gd st h Wr n listed E a w hp hM hgd hW
    cases m with
    | false => exact (show False from h).elim
    | true =>
    cases n with
    | zero => simp [planB] at hp
    | succ n =>
    simp only [runP] at h
    split at h
    · exact h.elim
    · rename_i o ho
      have hp' := hp
      simp only [planB, Bool.and_eq_true] at hp
      obtain ⟨⟨p1, p2⟩, p3⟩ := hp
      have first : ∀ v, YieldsR P ops (RW Wr) o v a w → anyG P .any ops (RWo ops Wr) (fun a w => G a k w) n (listed.setIfInBounds i true) (a.put o.dst v) w → anyG P .any ops (RWo ops Wr) (fun a w => G a k w) (n + 1) listed a w := fun v hy hk =>
        anyG_first (R := RWo ops Wr) (V := RW Wr) (fun _ w => RW.refl _ w) (RW.refl Wr) (fun h k => h.trans k) ho (Region.noSelect_spec hsel) (fun _ => True) (fun l j _ _ _ => ⟨fun _ _ h => RWo.rw (ops := ops) (i := j) h, trivial⟩) n listed a w trivial (Region.free_spec ho p2) (by simpa using p1) hy hk
      split at h
      · rename_i hg
        have hw := guardR_yes hg hgd
        split at h
        · rename_i hc
          obtain ⟨hfd, hl, hds⟩ := hc
          obtain ⟨d, hd⟩ := Option.isSome_iff_exists.1 hds
          have key : ∀ st1 st2, (exec T st o = .ok st1 ∨ ∃ q, exec T st o = .need q st1 ∧ q) → (exec T (st.drop W) o = .ok st2 ∨ ∃ q, exec T (st.drop W) o = .need q st2 ∧ q) → DS P XC X0 w0 ops z W G k true p gd st1 → anyG P .any ops (RWo ops Wr) (fun a w => G a k w) (n + 1) listed a w := by
            intro st1 st2 he1 he2 hk
            have hs1 : StepOk P XC X0 w0 st E a w o st1 := by
              have hx := exec_ok C.tab C.eq hM o
              rcases he1 with he | ⟨q, he, hq⟩
              · rw [he] at hx; exact hx
              · rw [he] at hx; exact hx hq
            have hs2 : ∀ w', RW Wr w w' → StepOk P XC X0 w0 (st.drop W) E a w' o st2 := fun w' hR => by
              have hx := exec_ok C.tab C.eq (hM.ext hW.hw hR) o
              rcases he2 with he | ⟨q, he, hq⟩
              · rw [he] at hx; exact hx
              · rw [he] at hx; exact hx hq
            obtain ⟨r, v, E', w2, g1, g2, g3, g4, _⟩ := hs1
            obtain ⟨u, rfl, rfl, hw2, hE2, h5, h6⟩ := g4 hl
            obtain rfl := hw2.symm
            obtain rfl := hE2.symm
            have hall : ∀ w', RW Wr w w' → ∃ u2, (execOp a.eval o).run P w' = .ok (.value (den E u2)) w' ∧ st2 = (st.drop W).put o.dst u2 := fun w' hR => by
              obtain ⟨r, v, E', w3, f1, f2, f3, f4, _⟩ := hs2 w' hR
              obtain ⟨u2, rfl, rfl, hw3, hE3, f5, _⟩ := f4 hl
              obtain rfl := hw3.symm
              obtain rfl := hE3.symm
              exact ⟨u2, f1, f5⟩
            obtain ⟨u2, k1, k2⟩ := hall w (RW.refl Wr w)
            have hden : den E u2 = den E u := by rw [k1] at g1; simpa using g1
            have hnd : ∀ c, o.op ≠ .defer c := fun c hc => by
              rw [exec_defer hc] at he1
              rcases he1 with he | ⟨q, he, _⟩ <;> cases he
            refine first (den E u) (.inl ⟨hw, hnd, fun w' hR => ?_⟩) ?_
            · obtain ⟨u3, m1, m2⟩ := hall w' hR
              rw [k2, hd] at m2
              simp only [St.put, St.mk.injEq, List.cons.injEq, Prod.mk.injEq, true_and, and_true] at m2
              rw [m1, ← m2, hden]
            · rw [h5] at hk
              exact hk Wr n _ E _ w p3 (hM.put o.dst h6 rfl) (gd_put hgd hfd _) (hW.put _ _)
          split at h
          · rename_i st1 he1
            split at h
            · rename_i st2 he2
              exact key st1 st2 (.inl he1) (.inl he2) (ih _ _ _ h)
            · exact h.elim
          · rename_i q st1 he1
            split at h
            · rename_i q' st2 he2
              exact key st1 st2 (.inr ⟨q, he1, h.1.1⟩) (.inr ⟨q', he2, h.1.2⟩) h.2
            · exact h.elim
          · exact h.elim
        · exact h.elim
      · rename_i hg
        have hw := guardR_no hg hM hgd
        split at h
        · rename_i hfd
          exact first undef (.inr ⟨hw, rfl⟩) (ih _ _ _ h Wr n _ E _ w p3 (hM.put o.dst (u := .v undef) (.v _) rfl) (gd_put hgd hfd _) (hW.put _ _))
        · exact h.elim
      · rename_i t bb hg
        have hv := guardR_ask hg hM
        cases bb with
        | true => exact h.1 rfl Wr (n + 1) listed E a w hp' (ask_ok hv hM hgd).1 (ask_ok hv hM hgd).2 ⟨hW.of, hW.into, hW.fr⟩
        | false => exact h.2 rfl Wr (n + 1) listed E a w hp' (ask_ok hv hM hgd).1 (ask_ok hv hM hgd).2 ⟨hW.of, hW.into, hW.fr⟩
      · exact h.elim
  | r i p ih =>
    intro m gd st h Wr n listed E a w hp hM hgd hW
    cases n with
    | zero => simp [planB] at hp
    | succ n =>
    cases m with
    | true =>
      simp only [runP] at h
      split at h
      · exact h.elim
      · rename_i o ho
        have hp' := hp
        simp only [planB, Bool.and_eq_true] at hp
        obtain ⟨⟨⟨p1, p2⟩, p2r⟩, p3⟩ := hp
        obtain ⟨Inv, i1, i2⟩ := rdOk_spec p2r
        have first : ∀ v, YieldsR P ops (RW fun _ => False) o v a w → anyG P .any ops (RWo ops Wr) (fun a w => G a k w) n (listed.setIfInBounds i true) (a.put o.dst v) w → anyG P .any ops (RWo ops Wr) (fun a w => G a k w) (n + 1) listed a w := fun v hy hk =>
          anyG_first (R := RWo ops Wr) (V := RW fun _ => False) (fun _ w => RW.refl _ w) (RW.refl _) (fun h k => h.trans k) ho (Region.noSelect_spec hsel) Inv (fun l j h1 h2 h3 => ⟨fun _ _ h => RWo.none (ops := ops) (Wr := Wr) h (i2 l j h1 h2 h3).1, (i2 l j h1 h2 h3).2⟩) n listed a w i1 (Region.free_spec ho p2) (by simpa using p1) hy hk
        split at h
        · rename_i hg
          have hw := guardR_yes hg hgd
          split at h
          · rename_i hc
            obtain ⟨hfd, hl, hds⟩ := hc
            have key : ∀ st1, (exec T st o = .ok st1 ∨ ∃ q, exec T st o = .need q st1 ∧ q) → DS P XC X0 w0 ops z W G k true p gd st1 → anyG P .any ops (RWo ops Wr) (fun a w => G a k w) (n + 1) listed a w := by
              intro st1 he1 hk
              have hs2 : ∀ w', RW (fun _ => False) w w' → StepOk P XC X0 w0 st E a w' o st1 := fun w' hR => by
                have hx := exec_ok C.tab C.eq (hM.below ⟨hR.1, hR.2.1, hR.2.2.1, hR.2.2.2.1, fun b hb => hR.2.2.2.2 b hb id⟩) o
                rcases he1 with he | ⟨q, he, hq⟩
                · rw [he] at hx; exact hx
                · rw [he] at hx; exact hx hq
              obtain ⟨d, hd⟩ := Option.isSome_iff_exists.1 hds
              have hall : ∀ w', RW (fun _ => False) w w' → ∃ u2, (execOp a.eval o).run P w' = .ok (.value (den E u2)) w' ∧ st1 = st.put o.dst u2 := fun w' hR => by
                obtain ⟨r, v, E', w3, f1, f2, f3, f4, _⟩ := hs2 w' hR
                obtain ⟨u2, rfl, rfl, hw3, hE3, f5, _⟩ := f4 hl
                obtain rfl := hw3.symm
                obtain rfl := hE3.symm
                exact ⟨u2, f1, f5⟩
              obtain ⟨r, v, E', w2, g1, g2, g3, g4, _⟩ := hs2 w (RW.refl _ w)
              obtain ⟨u, rfl, rfl, hw2, hE2, h5, h6⟩ := g4 hl
              obtain rfl := hw2.symm
              obtain rfl := hE2.symm
              refine first (den E u) (.inl ⟨hw, fun c hc => by
                rcases he1 with he | ⟨q, he, _⟩ <;> (rw [exec_defer hc] at he; cases he), fun w' hR => ?_⟩) ?_
              · obtain ⟨u3, m1, m2⟩ := hall w' hR
                rw [h5, hd] at m2
                simp only [St.put, St.mk.injEq, List.cons.injEq, Prod.mk.injEq, true_and, and_true] at m2
                rw [m1, ← m2]
              · rw [h5] at hk
                exact hk Wr n _ E _ w p3 (hM.put o.dst h6 rfl) (gd_put hgd hfd _) (hW.put _ _)
            split at h
            · rename_i st1 he1
              exact key st1 (.inl he1) (ih _ _ _ h)
            · rename_i q st1 he1
              exact key st1 (.inr ⟨q, he1, h.1⟩) h.2
            · exact h.elim
          · exact h.elim
        · rename_i hg
          have hw := guardR_no hg hM hgd
          split at h
          · rename_i hfd
            exact first undef (.inr ⟨hw, rfl⟩) (ih _ _ _ h Wr n _ E _ w p3 (hM.put o.dst (u := .v undef) (.v _) rfl) (gd_put hgd hfd _) (hW.put _ _))
          · exact h.elim
        · rename_i t bb hg
          have hv := guardR_ask hg hM
          cases bb with
          | true => exact h.1 rfl Wr (n + 1) listed E a w hp' (ask_ok hv hM hgd).1 (ask_ok hv hM hgd).2 ⟨hW.of, hW.into, hW.fr⟩
          | false => exact h.2 rfl Wr (n + 1) listed E a w hp' (ask_ok hv hM hgd).1 (ask_ok hv hM hgd).2 ⟨hW.of, hW.into, hW.fr⟩
        · exact h.elim
    | false =>
      simp only [runP] at h
      split at h
      · exact h.elim
      · rename_i o ho
        have hp' := hp
        simp only [planB, Bool.and_eq_true] at hp
        obtain ⟨⟨⟨p1, p2⟩, p2r⟩, p3⟩ := hp
        obtain ⟨Inv, i1, i2⟩ := rdOk_spec p2r
        have first : ∀ v, YieldsR P ops (RW fun _ => False) o v a w → anyG P .any ops (RWo ops Wr) (fun a w => G a k w) n (listed.setIfInBounds i true) (a.put o.dst v) w → anyG P .any ops (RWo ops Wr) (fun a w => G a k w) (n + 1) listed a w := fun v hy hk =>
          anyG_first (R := RWo ops Wr) (V := RW fun _ => False) (fun _ w => RW.refl _ w) (RW.refl _) (fun h k => h.trans k) ho (Region.noSelect_spec hsel) Inv (fun l j h1 h2 h3 => ⟨fun _ _ h => RWo.none (ops := ops) (Wr := Wr) h (i2 l j h1 h2 h3).1, (i2 l j h1 h2 h3).2⟩) n listed a w i1 (Region.free_spec ho p2) (by simpa using p1) hy hk
        split at h
        · rename_i hg
          have hw := guardR_yes hg hgd
          split at h
          · rename_i hc
            obtain ⟨hfd, hl, hds⟩ := hc
            have key : ∀ st1, (exec T st o = .ok st1 ∨ ∃ q, exec T st o = .need q st1 ∧ q) → DS P XC X0 w0 ops z W G k false p gd st1 → anyG P .any ops (RWo ops Wr) (fun a w => G a k w) (n + 1) listed a w := by
              intro st1 he1 hk
              have hs2 : ∀ w', RW (fun _ => False) w w' → StepOk P XC X0 w0 st E a w' o st1 := fun w' hR => by
                have hx := exec_ok C.tab C.eq (hM.below ⟨hR.1, hR.2.1, hR.2.2.1, hR.2.2.2.1, fun b hb => hR.2.2.2.2 b hb id⟩) o
                rcases he1 with he | ⟨q, he, hq⟩
                · rw [he] at hx; exact hx
                · rw [he] at hx; exact hx hq
              obtain ⟨d, hd⟩ := Option.isSome_iff_exists.1 hds
              have hall : ∀ w', RW (fun _ => False) w w' → ∃ u2, (execOp a.eval o).run P w' = .ok (.value (den E u2)) w' ∧ st1 = st.put o.dst u2 := fun w' hR => by
                obtain ⟨r, v, E', w3, f1, f2, f3, f4, _⟩ := hs2 w' hR
                obtain ⟨u2, rfl, rfl, hw3, hE3, f5, _⟩ := f4 hl
                obtain rfl := hw3.symm
                obtain rfl := hE3.symm
                exact ⟨u2, f1, f5⟩
              obtain ⟨r, v, E', w2, g1, g2, g3, g4, _⟩ := hs2 w (RW.refl _ w)
              obtain ⟨u, rfl, rfl, hw2, hE2, h5, h6⟩ := g4 hl
              obtain rfl := hw2.symm
              obtain rfl := hE2.symm
              refine first (den E u) (.inl ⟨hw, fun c hc => by
                rcases he1 with he | ⟨q, he, _⟩ <;> (rw [exec_defer hc] at he; cases he), fun w' hR => ?_⟩) ?_
              · obtain ⟨u3, m1, m2⟩ := hall w' hR
                rw [h5, hd] at m2
                simp only [St.put, St.mk.injEq, List.cons.injEq, Prod.mk.injEq, true_and, and_true] at m2
                rw [m1, ← m2]
              · rw [h5] at hk
                exact hk Wr n _ E _ w p3 (hM.put o.dst h6 rfl) (gd_put hgd hfd _) (hW.put _ _)
            split at h
            · rename_i st1 he1
              exact key st1 (.inl he1) (ih _ _ _ h)
            · rename_i q st1 he1
              exact key st1 (.inr ⟨q, he1, h.1⟩) h.2
            · exact h.elim
          · exact h.elim
        · rename_i hg
          have hw := guardR_no hg hM hgd
          split at h
          · rename_i hfd
            exact first undef (.inr ⟨hw, rfl⟩) (ih _ _ _ h Wr n _ E _ w p3 (hM.put o.dst (u := .v undef) (.v _) rfl) (gd_put hgd hfd _) (hW.put _ _))
          · exact h.elim
        · rename_i t bb hg
          have hv := guardR_ask hg hM
          cases bb with
          | true => exact h.1 rfl Wr (n + 1) listed E a w hp' (ask_ok hv hM hgd).1 (ask_ok hv hM hgd).2 ⟨hW.of, hW.into, hW.fr⟩
          | false => exact h.2 rfl Wr (n + 1) listed E a w hp' (ask_ok hv hM hgd).1 (ask_ok hv hM hgd).2 ⟨hW.of, hW.into, hW.fr⟩
        · exact h.elim
  | o i p ih =>
    intro m gd st h
    simp only [runP] at h
    split at h
    · exact h.elim
    · rename_i o ho
      split at h
      · rename_i hg
        cases he : only1 T z m W gd st o with
        | ok st' => rw [he] at h; exact ds_of_d1 (only1_ok C ho hg (by rw [he]; exact ih _ _ _ h) hXC)
        | need q st' => rw [he] at h; exact ds_of_d1 (only1_ok C ho hg (by rw [he]; exact h) hXC)
        | call f args d =>
          rw [he] at h
          simp only at h
          split at h
          · exact ds_of_d1 (only1_ok C ho hg (by rw [he]; exact h) hXC)
          · exact h
        | no => rw [he] at h; exact h.elim
      · rename_i hg
        split at h
        · rename_i hfd
          refine ds_of_d1 fun Wr n listed E a w hp hM hgd hW => ?_
          unfold opG
          simp only [ho]
          exact .inl ⟨guardR_no hg hM hgd, RW.refl _ _, ih _ _ _ h Wr n _ E _ w hp (hM.put o.dst (u := .v undef) (.v _) rfl) (gd_put hgd hfd _) (hW.put _ _)⟩
        · exact h.elim
      · rename_i t bb hg
        intro Wr n listed E a w hp hM hgd hW
        have hv := guardR_ask hg hM
        cases bb with
        | true => exact h.1 rfl Wr n listed E a w hp (ask_ok hv hM hgd).1 (ask_ok hv hM hgd).2 ⟨hW.of, hW.into, hW.fr⟩
        | false => exact h.2 rfl Wr n listed E a w hp (ask_ok hv hM hgd).1 (ask_ok hv hM hgd).2 ⟨hW.of, hW.into, hW.fr⟩
      · exact h.elim
  | w p ih =>
    intro m gd st h Wr n listed E a w hp hM hgd hW
    refine ih false gd st (by cases m <;> exact h) Wr n listed E a w (by cases n <;> exact hp) hM hgd ⟨hW.of, fun h => (by cases h), hW.fr⟩
  | f i p j q ih1 ih2 =>
    intro m gd st h Wr n listed E a w hp hM hgd hW
    have h : D1 P XC X0 w0 ops z W G k m i p gd st ∧ D1 P XC X0 w0 ops z W G k m j q gd st := by cases m <;> exact h
    cases n with
    | zero => simp [planB] at hp
    | succ n =>
      simp only [planB, Bool.and_eq_true, beq_iff_eq] at hp
      obtain ⟨⟨p1, p2⟩, p3⟩ := hp
      refine ⟨fun h0 => by rw [h0] at p1; simp at p1, fun l hl => ?_⟩
      rw [p1] at hl
      rcases List.mem_cons.1 hl with rfl | hl
      · exact h.1 Wr n listed E a w p2 hM hgd hW
      · simp only [List.mem_singleton] at hl
        subst hl
        exact h.2 Wr n listed E a w p3 hM hgd hW
/-! rules -/
variable {up : List Frame} {fo : Nat} {R : Ending → World → Prop} {gd gd' : List (Nat × Bool)} {st' : St} {ops : Array Oper} {z : Bool} {W : List Nat} {k : List Item} {p p' : Plan} {m m' : Bool}
def DQ (P : Program) (XC X0 : Nat → Prop) (w0 : World) (b : Frame) (up : List Frame) (fo : Nat) (R : Ending → World → Prop) (ops : Array Oper) (z : Bool) (W : List Nat) (k : List Item) (m : Bool) (p : Plan) (gd : List (Nat × Bool)) (st : St) : Prop :=
  (∀ b, XC b → b < w0.heap.size ∧ ¬ X0 b) → Region.noSelect ops = true → DS P XC X0 w0 ops z W (GS P b up fo R) k m p gd st
/-- Into a region that draws its order; W: the objects that it writes to. -/
theorem p_draw (C : Ctx P T) (W : List Nat) (p : Plan) {id : Nat} (hsel : Region.noSelect ops = true) (hp : planB ops ops.size p (Array.replicate ops.size false) = true) (h : DQ P XC X0 w0 b up fo R ops false W k true p [] st) :
    QS P XC X0 w0 b up fo R (.code (.region id ops true) :: k) gd st := by
  intro hXC E a w hM hgd
  refine gs_region (R := RWo ops fun b => ∃ i o, W.contains i = true ∧ nth st.ob i = some o ∧ blk E i o = some b) C.mixed (gs_closed P b up fo R) ?_
  exact h hXC hsel _ _ _ E a _ hp (hM.below ((Below.refl _ w).drew)) (fun t b h => by simp [lookb] at h) ⟨fun i o b h1 h2 h3 => ⟨i, o, h1, h2, h3⟩, fun _ b _ ⟨i, o, h⟩ => ⟨i, o, h⟩, fun h => by cases h⟩
/-- So where it makes objects and writes to them; W: those that it writes to, the names of the new ones with them; what is read is read ahead of all ('.w' behind that). -/
theorem p_draw2 (C : Ctx P T) (W : List Nat) (p : Plan) {id : Nat} (hsel : Region.noSelect ops = true) (hp : planB ops ops.size p (Array.replicate ops.size false) = true) (h : DQ P XC X0 w0 b up fo R ops true W k true p [] st) :
    QS P XC X0 w0 b up fo R (.code (.region id ops true) :: k) gd st := by
  intro hXC E a w hM hgd
  refine gs_region (R := RWo ops fun b => (∃ i o, W.contains i = true ∧ nth st.ob i = some o ∧ blk E i o = some b) ∨ w.heap.size ≤ b) C.mixed (gs_closed P b up fo R) ?_
  refine h hXC hsel _ _ _ E a _ hp (hM.below ((Below.refl _ w).drew)) (fun t b h => by simp [lookb] at h) ⟨fun i o b h1 h2 h3 => .inl ⟨i, o, h1, h2, h3⟩, fun _ b hb h => ?_, fun _ b hb => .inr hb⟩
  rcases h with ⟨i, o, h⟩ | h
  · exact ⟨i, o, h⟩
  · rcases hb with hb | hb
    · cases hb
    · exact absurd h (by show ¬ w.heap.size ≤ b; have hb : b < w.heap.size := hb; omega)
theorem d_fin (C : Ctx P T) (h : runP T ops W z m p gd st = .fin st') (hk : QS P XC X0 w0 b up fo R k [] st') : DQ P XC X0 w0 b up fo R ops z W k m p gd st :=
  fun hXC hs => runP_ok C hs (fun b h => (hXC b h).1) p m gd st (by rw [h]; exact hk hXC)
theorem d_br (C : Ctx P T) {c : Bool} {g1 g2 : List (Nat × Bool)} {s1 s2 : St} (h : runP T ops W z m p gd st = .br c m' p' g1 s1 g2 s2) (h1 : c = true → DQ P XC X0 w0 b up fo R ops z W k m' p' g1 s1) (h2 : c = false → DQ P XC X0 w0 b up fo R ops z W k m' p' g2 s2) : DQ P XC X0 w0 b up fo R ops z W k m p gd st :=
  fun hXC hs => runP_ok C hs (fun b h => (hXC b h).1) p m gd st (by rw [h]; exact ⟨fun e => h1 e hXC hs, fun e => h2 e hXC hs⟩)
theorem d_need (C : Ctx P T) {q : Prop} (h : runP T ops W z m p gd st = .need q m' p' gd' st') (hq : q) (hk : DQ P XC X0 w0 b up fo R ops z W k m' p' gd' st') : DQ P XC X0 w0 b up fo R ops z W k m p gd st :=
  fun hXC hs => runP_ok C hs (fun b h => (hXC b h).1) p m gd st (by rw [h]; exact ⟨hq, hk hXC hs⟩)
theorem d_call (C : Ctx P T) {g : Nat} {args : List SV} {d : Option Tmp} {Y : Type} {res : Y → SV} {post : Y → Prop} (hc : PureC P g args Y res post) (h : runP T ops W z m p gd st = .call g args d m' p' gd' st')
    (hk : ∀ y, post y → DQ P XC X0 w0 b up fo R ops z W k m' p' gd' (st'.put d (res y))) : DQ P XC X0 w0 b up fo R ops z W k m p gd st :=
  fun hXC hs => runP_ok C hs (fun b h => (hXC b h).1) p m gd st (by rw [h]; exact ⟨Y, res, post, hc, fun y hy => hk y hy hXC hs⟩)
theorem d_at (C : Ctx P T) (h : runP T ops W z m p gd st = .at_ m' p' gd' st') (hk : DQ P XC X0 w0 b up fo R ops z W k m' p' gd' st') : DQ P XC X0 w0 b up fo R ops z W k m p gd st :=
  fun hXC hs => runP_ok C hs (fun b h => (hXC b h).1) p m gd st (by rw [h]; exact hk hXC hs)
/-- one of two -/
theorem d_fork (C : Ctx P T) {i j : Nat} {q : Plan} (h : runP T ops W z m p gd st = .fork m' i p' j q gd' st') (h1 : (∀ b, XC b → b < w0.heap.size ∧ ¬ X0 b) → D1 P XC X0 w0 ops z W (GS P b up fo R) k m' i p' gd' st') (h2 : (∀ b, XC b → b < w0.heap.size ∧ ¬ X0 b) → D1 P XC X0 w0 ops z W (GS P b up fo R) k m' j q gd' st') : DQ P XC X0 w0 b up fo R ops z W k m p gd st :=
  fun hXC hs => runP_ok C hs (fun b h => (hXC b h).1) p m gd st (by rw [h]; exact ⟨h1 hXC, h2 hXC⟩)
theorem d1_ok (C : Ctx P T) {i : Nat} {o : Oper} (ho : ops[i]? = some o) (hs : Region.noSelect ops = true) (hg : guardR ops gd st o = .yes) (he : only1 T z m W gd st o = .ok st') (hk : DQ P XC X0 w0 b up fo R ops z W k m p gd st') : (∀ b, XC b → b < w0.heap.size ∧ ¬ X0 b) → D1 P XC X0 w0 ops z W (GS P b up fo R) k m i p gd st :=
  fun hXC => only1_ok C ho hg (by rw [he]; exact hk hXC hs) fun b h => (hXC b h).1
theorem d1_call (C : Ctx P T) {i : Nat} {o : Oper} {g : Nat} {args : List SV} {d : Option Tmp} {Y : Type} {res : Y → SV} {post : Y → Prop} (ho : ops[i]? = some o) (hs : Region.noSelect ops = true) (hg : guardR ops gd st o = .yes) (hc : PureC P g args Y res post) (he : only1 T z m W gd st o = .call g args d) (hk : ∀ y, post y → DQ P XC X0 w0 b up fo R ops z W k m p gd (st.put d (res y))) : (∀ b, XC b → b < w0.heap.size ∧ ¬ X0 b) → D1 P XC X0 w0 ops z W (GS P b up fo R) k m i p gd st :=
  fun hXC => only1_ok C ho hg (by rw [he]; exact ⟨Y, res, post, hc, fun y hy => hk y hy hXC hs⟩) fun b h => (hXC b h).1
/-- Within such a region: a row that is only read from here on. -/
theorem d_frz (i : Nat) {e k1 n : Nat} {el : Nat → List SV} (hW : (m && W.contains i) = false) (hn : nth st.ob i = some (.row e k1 n el)) (hk : ∀ A c, DQ P XC X0 w0 b up fo R ops z W k m p gd (st.frz i (.s A n c k1 el))) : DQ P XC X0 w0 b up fo R ops z W k m p gd st := by
  intro hXC hs Wr n' listed E a w hp hM hgd hw
  obtain ⟨A, c, h⟩ := hM.freeze hXC hn
  have same : ∀ j, j ≠ i → nth (st.frz i (.s A n c k1 el)).ob j = (nth st.ob j).map (frzO i (.s A n c k1 el)) := fun j hji => by
    simp only [St.frz, nth_frz, nth_upd, if_neg hji]
  refine hk A c hXC hs Wr n' listed E a w hp h hgd ⟨fun j o b h1 h2 h3 => ?_, fun hm b hlt hb => ?_, hw.fr⟩
  · have hji : j ≠ i := by
      rintro rfl
      simp only [St.frz, nth_frz, nth_upd, if_pos, hn] at h2
      simp [frzO] at h2
      subst h2
      simp [blk] at h3
    rw [same j hji] at h2
    cases hj : nth st.ob j with
    | none => rw [hj] at h2; cases h2
    | some o' => rw [hj] at h2; simp at h2; subst h2; rw [blk_frz] at h3; exact hw.of j o' b h1 hj h3
  · obtain ⟨j, o, h1, h2, h3⟩ := hw.into hm b hlt hb
    have hji : j ≠ i := by rintro rfl; rw [hm, h1] at hW; cases hW
    exact ⟨j, _, h1, by rw [same j hji, h2]; rfl, by rw [blk_frz]; exact h3⟩
end
end Go.SE
set_option linter.unusedVariables false
set_option linter.unusedSimpArgs false
namespace Go.SE
open Go.RowKit

/-- The contract of a function that hands back a row of its own. -/
structure OwnC (P : Program) (f : Nat) (args : List SV) (e k n : Nat) (el : Nat → List SV) : Prop where
  ent : Ent P f
  pa : pures args = true
  k0 : 0 < k
  sh : ∀ j, j < n → (el j).length = k ∧ ∀ u ∈ el j, one u = true ∧ pure u = true
  oks : ∀ (X : Nat → Prop) (w : World), (∀ u ∈ args, Ok 0 X w u) → ∀ j, j < n → ∀ u ∈ el j, Ok 0 X w u
  calls : ∀ (X : Nat → Prop) (w : World), (∀ b, X b → b < w.heap.size) → (∀ u ∈ args, Ok 0 X w u) →
    Calls P f (dens E0 args).toArray w fun e' w' => ∃ v, e' = .returned v ∧ Row w' e k v n (dens E0 (flat n el)) ∧ (∀ b, rowBlk v = some b → w.heap.size ≤ b) ∧ v.oneCell' = true ∧ Below w.heap.size w w'
def RO (e k n : Nat) (el : Nat → List SV) (w0 : World) (e' : Ending) (w' : World) : Prop :=
  ∃ v, e' = .returned v ∧ Row w' e k v n (dens E0 (flat n el)) ∧ (∀ b, rowBlk v = some b → w0.heap.size ≤ b) ∧ v.oneCell' = true ∧ Below w0.heap.size w0 w'
section
variable {P : Program} {T : List (Nat × TI)} {XC X0 : Nat → Prop} {w0 : World} {b : Frame} {st : St} {E : Env} {a : Act} {w : World}
variable {up : List Frame} {fo : Nat} {R : Ending → World → Prop} {n : Nat} {todo t : List Item} {gd gd' : List (Nat × Bool)} {st' : St} {ops : Array Oper} {z : Bool} {W : List Nat} {k : List Item} {p p' : Plan} {m m' : Bool}

theorem init_models {f : Nat} {fn : Func} {args : List SV} {X : Nat → Prop} (hlen : args.length ≤ fn.ntmps) (hok : ∀ u ∈ args, Ok 0 X w u) :
    Models X (fun _ => False) w { tm := zipTm 0 args, ob := [], nt := fn.ntmps, no := 0 } E0 { tmps := (dens E0 args).toArray ++ Array.replicate (fn.ntmps - args.length) undef, defers := [] } w := by
  have mv : ∀ u, Ok 0 X w u → Ok 0 (Ex X E0 []) w u := fun u hu => hu.move (Nat.le_refl _) (Nat.le_refl _) fun b _ hX => ⟨fun h => hX (h.elim (fun ⟨i, o, h, _⟩ => by simp [nth] at h) id), rfl⟩
  exact ⟨⟨Fr.refl _ _, fun i o h => by simp [nth] at h, fun b hb => by obtain ⟨i, o, h, _⟩ := hb; simp [nth] at h, fun i j o o' b h => by simp [nth] at h, fun i o h => by simp [nth] at h, fun i o h => by simp [nth] at h, fun _ => rfl, fun _ => rfl⟩,
      enter_cur hlen fun u hu => mv u (hok u hu), by simp⟩
theorem ownC_intro {f : Nat} {fn : Func} {c : Code} {args : List SV} {e k n : Nat} {el : Nat → List SV} (hf : P.funcs[f]? = some fn) (hn : (fn.name == "runtime.NumGoroutine") = false) (hb : fn.body = some c) (hpa : pures args = true) (hlen : args.length ≤ fn.ntmps) (k0 : 0 < k)
    (sh : ∀ j, j < n → (el j).length = k ∧ ∀ u ∈ el j, one u = true ∧ pure u = true) (oks : ∀ (X : Nat → Prop) (w : World), (∀ u ∈ args, Ok 0 X w u) → ∀ j, j < n → ∀ u ∈ el j, Ok 0 X w u)
    (h : ∀ XC w0, QS P XC (fun _ => False) w0 (frm f) [] f (RO e k n el w0) [.code c] [] { tm := zipTm 0 args, ob := [], nt := fn.ntmps, no := 0 }) : OwnC P f args e k n el := by
  refine ⟨ent_of hf hn hb, hpa, k0, sh, oks, fun X w hX hok => ?_⟩
  have hg := h X w (fun b hb => ⟨hX b hb, id⟩) E0 _ w (init_models (f := f) hlen hok) (fun t b h => by simp [lookb] at h)
  intro cs
  obtain ⟨e', w', fr, h1, h2, h3, h4⟩ := hg cs
  refine ⟨e', w', fr, h1, ?_, h3, h4⟩
  rw [enter_frm hf hb]
  exact h2
theorem p_retO {f e k m : Nat} {el : Nat → List SV} (C : Ctx P T) {fn : Func} {i : Nat} {el' : Nat → List SV} {ob' : List (Nat × Ob)} (hf : P.funcs[f]? = some fn) (h : run T n todo gd st = .at_ t gd' st') (hend : isEnd t = true) (hs : shut st'.df st'.ob = some ob') (hr : retS T { st' with ob := ob', df := [] } fn.results.toList = some [.own i])
    (hn : nth ob' i = some (.row e k m el')) (hel : ∀ j, j < m → el' j = el j) : QS P XC (fun _ => False) w0 (frm f) [] f (RO e k m el w0) todo gd st := by
  refine p_at C h fun hXC => ?_
  intro E a w hM hgd cs
  obtain ⟨w', fr, h1, h2, h3, h4, h5⟩ := leave_ok C.tab hM (b := frm f) hf rfl rfl hend hs hr cs
  refine ⟨.returned (E.val i), w', fr, ?_, h1, h2, h3⟩
  have hob := h4.mem.ob i _ hn
  refine ⟨_, rfl, by rw [← flat_congr hel]; exact hob.1, fun b hb => ?_, h4.mem.val i, ⟨h4.mem.fr.os, h4.mem.fr.tape, h4.mem.fr.output, h4.mem.fr.size, fun b hb => h4.mem.fr.block b hb id⟩⟩
  rcases (h4.mem.lt b ⟨i, _, hn, hb⟩).2 with h | h
  · exact h.elim
  · exact h
theorem own_call {w' : World} (hM : Models XC X0 w0 st E a w) (hb : Below w.heap.size w w') (d : Option Tmp) {e k n : Nat} {el : Nat → List SV} {v : Value} (hR : Row w' e k v n (dens E0 (flat n el))) (hf : ∀ b, rowBlk v = some b → w.heap.size ≤ b) (hv : v.oneCell' = true) (k0 : 0 < k)
    (sh : ∀ j, j < n → (el j).length = k ∧ ∀ u ∈ el j, one u = true ∧ pure u = true) (oks : ∀ j, j < n → ∀ u ∈ el j, Ok 0 (Ex XC E st.ob) w u) : Models XC X0 w0 (st.row d e k n el none) (E.setVal st.no v) (a.put d v) w' :=
  hM.newRow d (old := none) (row := none) (by simp) ⟨hb.os, hb.tape, hb.output, hb.size, fun b h _ => hb.block b h⟩ hR (fun b h => .inl (hf b h)) sh k0 (fun j hj u hu => (oks j hj u hu).move (Nat.zero_le _) (Nat.le_refl _) fun b _ hX => ⟨hX, rfl⟩) hv
theorem p_callO (C : Ctx P T) {g : Nat} {args : List SV} {d : Option Tmp} {e k n' : Nat} {el : Nat → List SV} (hc : OwnC P g args e k n' el) (h : run T n todo gd st = .call g args d t gd' st') (hfd : freshd gd' d = true)
    (hk : QS P XC X0 w0 b up fo R t gd' (st'.row d e k n' el none)) : QS P XC X0 w0 b up fo R todo gd st := by
  intro hXC
  refine run_ok C.tab C.eq (gs_closed P b up fo R) n todo gd st ?_
  rw [h]
  refine ⟨hc.ent, fun E a w hM hgd hok => ⟨fun e' w' => ∃ v, e' = .returned v ∧ Row w' e k v n' (dens E0 (flat n' el)) ∧ (∀ b, rowBlk v = some b → w.heap.size ≤ b) ∧ v.oneCell' = true ∧ Below w.heap.size w w', ?_, ?_⟩⟩
  · rw [dens_pure E args hc.pa]
    exact hc.calls _ w (hM.exlt fun b h => (hXC b h).1) fun u hu => (hok u hu).scope0 (pures_mem hc.pa u hu)
  · rintro e' w' ⟨v, rfl, hR, hf, hv, hbl⟩
    exact ⟨v, rfl, hk hXC _ _ w' (own_call hM hbl d hR hf hv hc.k0 hc.sh (hc.oks _ w fun u hu => (hok u hu).scope0 (pures_mem hc.pa u hu))) (gd_put hgd hfd _)⟩
/-- What a slice that is told of is never without. -/
theorem p_fact {t : Nat} {A : Option Addr} {m c k : Nat} {el : Nat → List SV} (hl : look st.tm t = some (.s A m c k el)) (hk : m ≤ c → c ≤ 9223372036854775807 → (0 < m → A.isSome = true) → QS P XC X0 w0 b up fo R todo gd st) : QS P XC X0 w0 b up fo R todo gd st := by
  intro hXC E a w hM hgd
  have := hM.cur.oks t _ hl
  cases this with
  | s hm hc hq hp ho => exact hk hm hc (fun h => by obtain ⟨ad, rfl, _⟩ := hq 0 h; rfl) hXC E a w hM hgd
/-- The same elements, told otherwise. -/
theorem p_reel (t : Nat) {A : Option Addr} {m c k : Nat} {el el' : Nat → List SV} (hl : look st.tm t = some (.s A m c k el)) (he : ∀ j, j < m → el j = el' j) (hk : QS P XC X0 w0 b up fo R todo gd { st with tm := (t, .s A m c k el') :: st.tm }) : QS P XC X0 w0 b up fo R todo gd st := by
  intro hXC E a w hM hgd
  refine hk hXC E a w ⟨hM.mem, ⟨hM.cur.size, hM.cur.defers, hM.cur.dfl, fun t' u hu ht' => ?_, fun t' u hu => ?_⟩, hM.sus⟩ hgd
  · simp only [St.cur, look] at hu
    split at hu
    · rename_i e
      subst e
      simp at hu
      subst hu
      have h0 := hM.cur.tm t (.s A m c k el) hl ht'
      exact h0
    · exact hM.cur.tm t' u hu ht'
  · simp only [St.cur, look] at hu
    split at hu
    · simp at hu; subst hu
      have := hM.cur.oks t _ hl
      cases this with
      | s hm hc hq hp ho => exact .s hm hc (fun i hi => by rw [← he i hi]; exact hq i hi) (fun i hi => by rw [← he i hi]; exact hp i hi) (fun i hi => by rw [← he i hi]; exact ho i hi)
    · exact hM.cur.oks t' u hu
/-- A nil slice, told as one of no elements. -/
theorem p_nilS (t : Nat) {k : Nat} (el : Nat → List SV) (hl : look st.tm t = some (.v (.slice none 0 0))) (hk : QS P XC X0 w0 b up fo R todo gd { st with tm := (t, .s none 0 0 k el) :: st.tm }) : QS P XC X0 w0 b up fo R todo gd st := by
  intro hXC E a w hM hgd
  refine hk hXC E a w ⟨hM.mem, ⟨hM.cur.size, hM.cur.defers, hM.cur.dfl, fun t' u hu ht' => ?_, fun t' u hu => ?_⟩, hM.sus⟩ hgd
  · simp only [St.cur, look] at hu
    split at hu
    · rename_i e
      subst e
      simp at hu
      subst hu
      have h0 := hM.cur.tm t (.v (.slice none 0 0)) hl ht'
      exact h0
    · exact hM.cur.tm t' u hu ht'
  · simp only [St.cur, look] at hu
    split at hu
    · simp at hu; subst hu
      exact .s (Nat.le_refl _) (by omega) (fun i hi => by omega) (fun i hi => by omega) (fun i hi => by omega)
    · exact hM.cur.oks t' u hu
def nilTo : List SV → List SV → Prop
  | [], [] => True
  | x :: r, y :: s => (x = y ∨ (x = .v (.slice none 0 0) ∧ ∃ k el, y = .s none 0 0 k el)) ∧ nilTo r s
  | _, _ => False
theorem nilTo_ok {N : Nat} {X : Nat → Prop} : ∀ {l l' : List SV}, nilTo l l' → (∀ u ∈ l, Ok N X w u) → dens E l = dens E l' ∧ ∀ u ∈ l', Ok N X w u
  | [], [], _, _ => ⟨rfl, by simp⟩
  | x :: r, y :: s, h, hk => by
    obtain ⟨h1, h2⟩ := nilTo_ok h.2 (fun u hu => hk u (by simp [hu]))
    rcases h.1 with rfl | ⟨rfl, k, el, rfl⟩
    · exact ⟨by simp only [dens, h1], fun u hu => by
        rcases List.mem_cons.1 hu with rfl | hu
        · exact hk _ (by simp)
        · exact h2 u hu⟩
    · exact ⟨by simp only [dens, den, h1], fun u hu => by
        rcases List.mem_cons.1 hu with rfl | hu
        · exact .s (Nat.le_refl _) (by omega) (fun i hi => by omega) (fun i hi => by omega) (fun i hi => by omega)
        · exact h2 u hu⟩
/-- Nil slices among the cells of a struct. -/
theorem p_nilA (t : Nat) {l l' : List SV} (hl : look st.tm t = some (.a l)) (hn : nilTo l l') (hk : QS P XC X0 w0 b up fo R todo gd { st with tm := (t, .a l') :: st.tm }) : QS P XC X0 w0 b up fo R todo gd st := by
  intro hXC E a w hM hgd
  have hok := hM.cur.oks t _ hl
  have hol : ∀ u ∈ l, Ok st.no (Ex XC E st.ob) w u := by cases hok with | a h => exact h
  obtain ⟨h1, h2⟩ := nilTo_ok (E := E) hn hol
  refine hk hXC E a w ⟨hM.mem, ⟨hM.cur.size, hM.cur.defers, hM.cur.dfl, fun t' u hu ht' => ?_, fun t' u hu => ?_⟩, hM.sus⟩ hgd
  · simp only [St.cur, look] at hu
    split at hu
    · rename_i e
      subst e
      simp at hu
      subst hu
      have h0 : a.tmps[t]? = some (den E (.a l)) := hM.cur.tm t (.a l) hl ht'
      show a.tmps[t]? = _
      rw [h0]; simp only [den, h1]
    · exact hM.cur.tm t' u hu ht'
  · simp only [St.cur, look] at hu
    split at hu
    · simp at hu; subst hu
      exact .a h2
    · exact hM.cur.oks t' u hu
/-- A call that reads a row of ours, and hands back plain data. -/
theorem p_callB (C : Ctx P T) (r : Nat) {i : Nat} {rest : List Nat} {k : List Item} {o : Oper} {g : Nat} {args : List SV} {e k1 n' : Nat} {el : Nat → List SV} {Y : Type} {res : Y → SV} {post : Y → Prop} (ho : headOp gd ops i = some o) (he : exec T st o = .call g args) (hn : nth st.ob r = some (.row e k1 n' el))
    (hc : ∀ A c, PureC P g (frzs r (.s A n' c k1 el) args) Y res post) (hp : ∀ y, plain (res y) = true) (hfd : freshd gd o.dst = true) (hk : ∀ y, post y → QS P XC X0 w0 b up fo R (.inRegion ops rest :: k) gd (st.put o.dst (res y))) :
    QS P XC X0 w0 b up fo R (.inRegion ops (i :: rest) :: k) gd st := by
  intro hXC E a w hM hgd
  obtain ⟨h1, h2⟩ := headOp_ok ho hgd
  have hx := exec_ok C.tab C.eq hM o
  rw [he] at hx
  obtain ⟨g1, g2⟩ := hx
  have hnd : ∀ c, o.op ≠ .defer c := fun c hc => by rw [exec_defer hc] at he; cases he
  obtain ⟨A, c, hv, hA⟩ := hM.freeze0 hXC hn
  have hc := hc A c
  obtain ⟨m0, mv⟩ := hM.mem.set (o' := .gone) hn (fun b h => by simp [blk] at h) (w' := w) (grownBy_refl w _) trivial trivial
  have hd : dens E (frzs r (.s A n' c k1 el) args) = dens E args := dens_frz (E := E) (i := r) (x := .s A n' c k1 el) hv.symm args
  have hok : ∀ u ∈ frzs r (.s A n' c k1 el) args, Ok 0 (Ex XC E (upd st.ob r .gone)) w u := fun u hu => by
    have hpu := pures_mem hc.pa u hu
    rw [frzs_map] at hu
    obtain ⟨y, hy, rfl⟩ := List.mem_map.1 hu
    exact (ok_frz hA (mv y (g2 y hy))).scope0 hpu
  have hlt : ∀ b, Ex XC E (upd st.ob r .gone) b → b < w.heap.size := fun b h => h.elim (fun h => (m0.lt b h).1) fun h => Nat.lt_of_lt_of_le (hXC b h).1 hM.mem.fr.size
  have hcall := hc.calls _ w hlt hok
  rw [← dens_pure E _ hc.pa, hd] at hcall
  refine (gs_closed P b up fo R).call h1 h2 hnd (g1 _ (hc.ent _ _)) hcall ?_
  rintro e' w' ⟨y, hy, rfl, _, hbl⟩
  refine ⟨_, rfl, hk y hy hXC E _ w' ((hM.below hbl).put o.dst (u := res y) (plain_ok _ _ _ _ (hp y)) ?_) (gd_put hgd hfd _)⟩
  exact (den_pure E _ (hc.pr y)).symm
/-- In a region that draws. -/
theorem d1_callO (C : Ctx P T) {i : Nat} {o : Oper} {g : Nat} {args : List SV} {d : Option Tmp} {e k1 n' : Nat} {el : Nat → List SV} (ho : ops[i]? = some o) (hs : Region.noSelect ops = true) (hg : guardR ops gd st o = .yes) (hc : OwnC P g args e k1 n' el) (he : only1 T z m W gd st o = .call g args d) (hWn : (z || W.all fun i => decide (i < st.no)) = true)
    (hk : DQ P XC X0 w0 b up fo R ops z W k m p gd (st.row d e k1 n' el none)) : (∀ b, XC b → b < w0.heap.size ∧ ¬ X0 b) → D1 P XC X0 w0 ops z W (GS P b up fo R) k m i p gd st := by
  intro hXC Wr n listed E a w hp hM hgd hW
  have hw := guardR_yes hg hgd
  have hx := exec_ok C.tab C.eq hM o
  unfold only1 at he
  split at he
  · rename_i hfd
    cases hex : exec T st o with
    | call f' args' =>
      rw [hex] at he hx
      by_cases hzm : (z && m) = true
      · simp only at he; rw [if_pos hzm] at he; cases he
      simp only [if_neg hzm, E1.call.injEq] at he
      obtain ⟨rfl, rfl, rfl⟩ := he
      obtain ⟨g1, g2⟩ := hx
      unfold opG
      simp only [ho]
      have hnd : ∀ c, o.op ≠ .defer c := fun c hc' => by rw [exec_defer hc'] at hex; cases hex
      refine .inr ⟨hw, hnd, .inr ⟨f', _, g1 _ (hc.ent _ _), ?_⟩⟩
      rw [dens_pure E args' hc.pa]
      have hok0 : ∀ u ∈ args', Ok 0 (Ex XC E st.ob) w u := fun u hu => (g2 u hu).scope0 (pures_mem hc.pa u hu)
      refine (hc.calls _ w (hM.exlt fun b h => (hXC b h).1) hok0).mono ?_
      rintro e' w'' ⟨v, rfl, hR, hf, hv, hbl⟩
      refine ⟨v, rfl, RW.below hbl, hk hXC hs Wr n _ _ _ w'' hp (own_call hM hbl o.dst hR hf hv hc.k0 hc.sh (hc.oks _ w hok0)) (gd_put hgd hfd _) ?_⟩
      have hlt : ∀ i o', nth st.ob i = some o' → i ≠ st.no := fun i o' h => by have := hM.mem.no i o' h; omega
      have heq := setVal_eq E st.no v
      have hob : (st.row o.dst e k1 n' el none).ob = (st.no, .row e k1 n' el) :: st.ob := by cases o.dst <;> rfl
      refine ⟨fun i o' b hi h hb => ?_, fun hm b hlb hb => ?_, fun hz b hb => hW.fr hz b (Nat.le_trans hbl.size hb)⟩
      · rw [hob, nth_cons] at h
        split at h
        · rename_i e1
          subst e1
          cases z with
          | true =>
            simp only [Option.some.injEq] at h
            subst h
            refine hW.fr rfl b (hf b ?_)
            simpa [blk, Env.setVal] using hb
          | false =>
            have := List.all_eq_true.1 hWn st.no (by simpa using hi)
            simp at this
        · exact hW.of i o' b hi h (by rw [← blk_env (hM.mem.no i o' h) heq]; exact hb)
      · obtain ⟨i, o', h1, h2, h3⟩ := hW.into hm b (.inl (by cases z with | false => rfl | true => rw [hm] at hzm; exact absurd rfl hzm)) hb
        exact ⟨i, o', h1, by rw [hob, nth_cons, if_neg (Ne.symm (hlt i o' h2))]; exact h2, by rw [blk_env (hM.mem.no i o' h2) heq]; exact h3⟩
    | ok s1 => rw [hex] at he; simp only at he; by_cases hq : stepB z m W st s1 o = true <;> simp [hq] at he
    | need q s1 => rw [hex] at he; simp only at he; by_cases hq : stepB z m W st s1 o = true <;> simp [hq] at he
    | yield | no => rw [hex] at he; cases he
  · cases he
end
end Go.SE
set_option linter.unusedVariables false
set_option linter.unusedSimpArgs false
namespace Go.SE
open Go.RowKit
section
variable {P : Program} {T : List (Nat × TI)} {XC X0 : Nat → Prop} {w0 : World} {b : Frame} {st st' : St}
variable {up : List Frame} {fo : Nat} {R : Ending → World → Prop} {gd : List (Nat × Bool)} {ops : Array Oper}
/-- A call of a function without a body, that is done in one step. -/
theorem p_ext (C : Ctx P T) {i : Nat} {rest : List Nat} {k : List Item} {o : Oper} {g : Nat} {args : List SV} (ho : headOp gd ops i = some o) (he : exec T st o = .call g args) (hfd : freshd gd o.dst = true)
    (hx : ∀ E a w, Models XC X0 w0 st E a w → (∀ u ∈ args, Ok st.no (Ex XC E st.ob) w u) → ∃ r v E' w', (callFunc g (dens E args).toArray).run P w = .ok r w' ∧ (r = .value v ∨ (r = .skip ∧ v = undef)) ∧ Models XC X0 w0 st' E' (a.put o.dst v) w')
    (hk : QS P XC X0 w0 b up fo R (.inRegion ops rest :: k) gd st') : QS P XC X0 w0 b up fo R (.inRegion ops (i :: rest) :: k) gd st := by
  intro hXC E a w hM hgd
  obtain ⟨h1, h2⟩ := headOp_ok ho hgd
  have hs := exec_ok C.tab C.eq hM o
  rw [he] at hs
  obtain ⟨g1, g2⟩ := hs
  have hnd : ∀ c, o.op ≠ .defer c := fun c hc => by rw [exec_defer hc] at he; cases he
  obtain ⟨r, v, E', w', q1, q2, q3⟩ := hx E a w hM g2
  exact (gs_closed P b up fo R).step (step_value hnd h1 h2 (g1 _ q1) q2) (hk hXC E' _ w' q3 (gd_put hgd hfd v))
end
end Go.SE
