/- A walk by symbols over the given program, a part of it: lemmas alone; what is claimed stands in the last text. No conditions of its own. -/
import Derived.Test.YtneddobmlcbabaaWaC
import Derived.MapKept
import Derived.WideKeyRuns
import Derived.Lib.ReflectliteSwap
import Derived.Laws.Externs
set_option linter.unusedVariables false
set_option linter.unusedSimpArgs false
set_option linter.unusedVariables false
set_option linter.unusedSimpArgs false
namespace Go.SE
open Go.RowKit Go.MapKept
section
variable {P : Program} {T : List (Nat × TI)} {XC X0 : Nat → Prop} {w0 : World} {b : Frame} {st st' : St}
variable {up : List Frame} {fo : Nat} {R : Ending → World → Prop} {gd : List (Nat × Bool)} {ops : Array Oper}
/-- An operation that the user shows to be carried out. -/
theorem p_op {i : Nat} {rest : List Nat} {k : List Item} {o : Oper} (ho : headOp gd ops i = some o) (hnd : ∀ c, o.op ≠ .defer c) (hfd : freshd gd o.dst = true)
    (hx : ∀ E a w, Models XC X0 w0 st E a w → ∃ r v E' w', (execOp a.eval o).run P w = .ok r w' ∧ (r = .value v ∨ (r = .skip ∧ v = undef)) ∧ Models XC X0 w0 st' E' (a.put o.dst v) w')
    (hk : QS P XC X0 w0 b up fo R (.inRegion ops rest :: k) gd st') : QS P XC X0 w0 b up fo R (.inRegion ops (i :: rest) :: k) gd st := by
  intro hXC E a w hM hgd
  obtain ⟨h1, h2⟩ := headOp_ok ho hgd
  obtain ⟨r, v, E', w', q1, q2, q3⟩ := hx E a w hM
  exact (gs_closed P b up fo R).step (step_value hnd h1 h2 q1 q2) (hk hXC E' _ w' q3 (gd_put hgd hfd v))

/-! keys -/
/-- What is asked of a type of keys. -/
structure KeyK (P : Program) (kt : TypeId) (kk : Bool) (len : Nat) : Prop where
  chk : ∀ e xs w, xs.length = len → (Instr.checkKey e 10000 kt (keyV kk xs)).run P w = .ok () w
  find : ∀ (xs : List Int) (es : List MapEntry) (ks : List (List Int)) w, es.map (·.key) = ks.map (keyV kk) → (∀ k ∈ ks, k.length = len) → xs.length = len →
    (∃ j e, (Instr.findKey kt (keyV kk xs) es).run P w = .ok (some (j, e.val)) w ∧ es[j]? = some e ∧ ks[j]? = some xs ∧ ∀ i, i < j → ks[i]? ≠ some xs) ∨ ((Instr.findKey kt (keyV kk xs) es).run P w = .ok none w ∧ xs ∉ ks)
theorem keyV_inj {kk : Bool} {len : Nat} (hl : kk = true → len = 1) {xs ys : List Int} (hx : xs.length = len) (hy : ys.length = len) (h : keyV kk xs = keyV kk ys) : xs = ys := by
  cases kk with
  | true =>
    have := hl rfl
    subst this
    match xs, ys, hx, hy with
    | [x], [y], _, _ => simp [keyV] at h; subst h; rfl
  | false =>
    simp only [keyV, cond_false, Value.agg.injEq] at h
    have h := congrArg Array.toList h
    have inj : ∀ xs ys : List Int, (xs.map fun x => Value.int .i64 x) = (ys.map fun x => Value.int .i64 x) → xs = ys := by
      intro xs
      induction xs with
      | nil => intro ys h; cases ys <;> simp_all
      | cons x r ih =>
        intro ys h
        cases ys with
        | nil => simp at h
        | cons y s => simp at h; obtain ⟨rfl, h⟩ := h; rw [ih s (by simpa using h)]
    exact inj _ _ (by simpa using h)
/-- an int -/
theorem keyK_int {kt : TypeId} (hd : P.underlying kt = some (.int .i64)) : KeyK P kt true 1 := by
  have isk : ∀ xs : List Int, IsKey (.int .i64) (keyV true xs) := fun xs => by simp [IsKey, keyV]
  refine ⟨fun e xs w _ => run_checkKey hd (isk xs) e 9999, fun xs es ks w he hk hx => ?_⟩
  have hkey : ∀ x ∈ es, IsKey (.int .i64) x.key := fun x hx => by
    have : x.key ∈ es.map (·.key) := List.mem_map.2 ⟨x, hx, rfl⟩
    rw [he] at this
    obtain ⟨y, _, hy⟩ := List.mem_map.1 this
    rw [← hy]; exact isk y
  have at_ : ∀ (j : Nat) e, es[j]? = some e → ∃ y, ks[j]? = some y ∧ e.key = keyV true y := fun j e h => by
    have h2 : (es.map (·.key))[j]? = some e.key := by simp [h]
    rw [he, List.getElem?_map] at h2
    cases hj : ks[j]? with
    | none => rw [hj] at h2; simp at h2
    | some y => rw [hj] at h2; simp at h2; exact ⟨y, rfl, h2.symm⟩
  have go : ∀ (l : List MapEntry) (ks : List (List Int)) (n : Nat), l.map (·.key) = ks.map (keyV true) → (∀ k ∈ ks, k.length = 1) →
      (∃ j e, Instr.findNow (.int .i64) (keyV true xs) l n = some (some (n + j, e.val)) ∧ l[j]? = some e ∧ ks[j]? = some xs ∧ ∀ i, i < j → ks[i]? ≠ some xs) ∨ (Instr.findNow (.int .i64) (keyV true xs) l n = some none ∧ xs ∉ ks) := by
    intro l
    induction l with
    | nil => intro ks n h _; cases ks with
      | nil => exact .inr ⟨rfl, by simp⟩
      | cons => simp at h
    | cons e r ih =>
      intro ks n h hks
      cases ks with
      | nil => simp at h
      | cons y s =>
        simp only [List.map_cons, List.cons.injEq] at h
        obtain ⟨h1, h2⟩ := h
        match xs, y, hx, hks y (by simp) with
        | [x], [y], _, _ =>
        by_cases hxy : x = y
        · subst hxy
          exact .inl ⟨0, e, by simp [Instr.findNow, h1, keyV, Instr.sameNow], rfl, rfl, fun i hi => by omega⟩
        · have hb : (x == y) = false := by simpa using hxy
          rcases ih s (n + 1) h2 (fun k hk => hks k (by simp [hk])) with ⟨j, e', g1, g2, g3, g4⟩ | ⟨g1, g2⟩
          · refine .inl ⟨j + 1, e', ?_, g2, g3, fun i hi => ?_⟩
            · simp only [Instr.findNow, h1, keyV, Instr.sameNow, cond_true, List.headD_cons, if_true, hb]
              rw [show n + (j + 1) = n + 1 + j by omega]
              exact g1
            · cases i with
              | zero => simp; exact fun h => hxy h.symm
              | succ i => exact g4 i (by omega)
          · refine .inr ⟨?_, by simp [hxy, g2]⟩
            simp only [Instr.findNow, h1, keyV, Instr.sameNow, cond_true, List.headD_cons, if_true, hb]
            exact g1
  rcases go es ks 0 he hk with ⟨j, e, g1, g2, g3, g4⟩ | ⟨g1, g2⟩
  · exact .inl ⟨j, e, by rw [run_findKey hd g1]; simp, g2, g3, g4⟩
  · exact .inr ⟨run_findKey hd g1, g2⟩

theorem mkI_rep (n : Nat) (xs : List Int) (h : xs.length = n) : mkI (List.replicate n .i64) xs = xs.map fun x => Value.int .i64 x := by
  induction n generalizing xs with
  | zero => cases xs <;> simp_all [mkI]
  | succ n ih => cases xs with
    | nil => simp at h
    | cons x r => simp only [List.replicate_succ, mkI, List.map_cons]; rw [ih r (by simpa using h)]
theorem forIn_unit {α : Type} (f : α → Sem Unit) (w : World) (l : List α) (h : ∀ x ∈ l, (f x).run P w = .ok () w) : (forIn (m := Sem) l PUnit.unit fun x _ => do f x; Pure.pure (ForInStep.yield PUnit.unit)).run P w = .ok PUnit.unit w := by
  induction l with
  | nil => rfl
  | cons x r ih =>
    simp only [List.forIn_cons, Sem.run_bind, h x (by simp), Result.andThen, Sem.run_pure]
    exact ih fun y hy => h y (by simp [hy])
theorem part_int {t : TypeId} (hd : P.underlying t = some (.int .i64)) (xs : List Int) (off : Nat) (h : off < xs.length) (w : World) : (part t (xs.map fun x => Value.int .i64 x).toArray off).run P w = .ok (.int .i64 (xs.getD off 0)) w := by
  have ha : (isAgg t).run P w = .ok false w := by unfold isAgg; simp [underlying, hd, Result.andThen]
  unfold part
  simp only [Sem.run_bind, ha, Result.andThen]
  simp [h, List.getD_eq_getElem?_getD]
theorem chk_struct {kt : TypeId} {fs : Array Field} {n : Nat} (hd : P.underlying kt = some (.struct fs)) (hf : ∀ f ∈ fs.toList, P.underlying f.type = some (.int .i64) ∧ f.offset < n) (e : Bool) (xs : List Int) (w : World) (hx : xs.length = n) :
    (Instr.checkKey e 10000 kt (keyV false xs)).run P w = .ok () w := by
  unfold Instr.checkKey
  simp only [keyV, cond_false, Sem.run_bind, run_underlying hd, Result.andThen]
  rw [← Array.forIn_toList]
  have key : ∀ l : List Field, (∀ f ∈ l, P.underlying f.type = some (.int .i64) ∧ f.offset < n) →
      (forIn (m := Sem) l PUnit.unit fun f _ => (if f.name ≠ "_" then (do
        let v ← part f.type (xs.map fun x => Value.int .i64 x).toArray f.offset
        Instr.checkKey e 9999 f.type v
        Pure.pure (ForInStep.yield PUnit.unit)) else (do
        Pure.pure PUnit.unit
        Pure.pure (ForInStep.yield PUnit.unit)) : Sem (ForInStep PUnit))).run P w = .ok PUnit.unit w := by
    intro l
    induction l with
    | nil => intro _; rfl
    | cons f r ih =>
      intro hl
      obtain ⟨h1, h2⟩ := hl f (by simp)
      simp only [List.forIn_cons, Sem.run_bind]
      by_cases hn : f.name = "_"
      · simp only [hn, ne_eq, not_true_eq_false, if_false, Sem.run_pure, Result.andThen]
        exact ih fun g hg => hl g (by simp [hg])
      · have hc : (Instr.checkKey e 9999 f.type (.int .i64 (xs.getD f.offset 0))).run P w = .ok () w := run_checkKey h1 (by simp [IsKey]) e 9998
        simp only [ne_eq, hn, not_false_eq_true, if_true, Sem.run_bind, part_int h1 xs f.offset (by omega) w, Result.andThen, hc, Sem.run_pure]
        exact ih fun g hg => hl g (by simp [hg])
  have := key fs.toList hf
  rw [this]; rfl
theorem keyK_struct {kt : TypeId} {ti : TI} {fs : Array Field} {n : Nat} (hE : EqOk P T) (ht : ty T kt = some ti) (he : ti.eqs = some (List.replicate n .i64)) (hd : P.underlying kt = some (.struct fs)) (hf : ∀ f ∈ fs.toList, P.underlying f.type = some (.int .i64) ∧ f.offset < n) : KeyK P kt false n := by
  refine ⟨fun e xs w hx => chk_struct hd hf e xs w hx, fun xs es ks w hes hk hx => ?_⟩
  have hfk : (Instr.findKey kt (keyV false xs) es).run P w = (Instr.findAsking kt (keyV false xs) es).run P w := run_findKey_eq w (by rw [hd]) _ _
  have heq : ∀ ys : List Int, ys.length = n → (Op.equal kt (keyV false xs) (keyV false ys)).run P w = .ok (xs == ys) w := fun ys hy => by
    have := (hE kt ti _ ht he).2 xs ys (by simpa using hx) (by simpa using hy) w
    rw [mkI_rep n xs hx, mkI_rep n ys hy] at this
    exact this
  have go : ∀ (l : List MapEntry) (ks : List (List Int)) (m : Nat), l.map (·.key) = ks.map (keyV false) → (∀ k ∈ ks, k.length = n) →
      (∃ j e, (Instr.findAsking kt (keyV false xs) l m).run P w = .ok (some (m + j, e.val)) w ∧ l[j]? = some e ∧ ks[j]? = some xs ∧ ∀ i, i < j → ks[i]? ≠ some xs) ∨ ((Instr.findAsking kt (keyV false xs) l m).run P w = .ok none w ∧ xs ∉ ks) := by
    intro l
    induction l with
    | nil => intro ks m h _; cases ks with
      | nil => exact .inr ⟨rfl, by simp⟩
      | cons => simp at h
    | cons e r ih =>
      intro ks m h hks
      cases ks with
      | nil => simp at h
      | cons y s =>
        simp only [List.map_cons, List.cons.injEq] at h
        obtain ⟨h1, h2⟩ := h
        have hq := heq y (hks y (by simp))
        by_cases hxy : xs = y
        · subst hxy
          refine .inl ⟨0, e, ?_, rfl, rfl, fun i hi => by omega⟩
          simp [Instr.findAsking, h1, hq, Result.andThen]
        · have hb : (xs == y) = false := by simpa using hxy
          have hstep : (Instr.findAsking kt (keyV false xs) (e :: r) m).run P w = (Instr.findAsking kt (keyV false xs) r (m + 1)).run P w := by
            simp [Instr.findAsking, h1, hq, hb, Result.andThen]
          rcases ih s (m + 1) h2 (fun k hk => hks k (by simp [hk])) with ⟨j, e', g1, g2, g3, g4⟩ | ⟨g1, g2⟩
          · refine .inl ⟨j + 1, e', ?_, g2, g3, fun i hi => ?_⟩
            · rw [hstep, show m + (j + 1) = m + 1 + j by omega]; exact g1
            · cases i with
              | zero => simp; exact fun h => hxy h.symm
              | succ i => exact g4 i (by omega)
          · exact .inr ⟨by rw [hstep]; exact g1, by simp [hxy, g2]⟩
  rcases go es ks 0 hes hk with ⟨j, e, g1, g2, g3, g4⟩ | ⟨g1, g2⟩
  · exact .inl ⟨j, e, by rw [hfk, g1]; simp, g2, g3, g4⟩
  · exact .inr ⟨by rw [hfk]; exact g1, g2⟩

/-! what a map holds -/
def mget {α : Type} : List (List Int × α) → List Int → Option α
  | [], _ => none
  | (k, v) :: r, x => if k = x then some v else mget r x
def mset {α : Type} : List (List Int × α) → List Int → α → List (List Int × α)
  | [], x, v => [(x, v)]
  | (k, u) :: r, x, v => if k = x then (k, v) :: r else (k, u) :: mset r x v
theorem mget_at {α : Type} : ∀ {l : List (List Int × α)} {x : List Int} {j : Nat} {v : α}, l[j]? = some (x, v) → (∀ i, i < j → (l.map (·.1))[i]? ≠ some x) → mget l x = some v
  | [], _, _, _, h, _ => by simp at h
  | (k, u) :: r, x, 0, v, h, _ => by simp at h; simp [mget, h.1, h.2]
  | (k, u) :: r, x, j + 1, v, h, hn => by
    have h0 := hn 0 (by omega)
    simp at h0
    simp only [mget, if_neg h0]
    exact mget_at (j := j) (by simpa using h) fun i hi => by have := hn (i + 1) (by omega); simpa using this
theorem mget_none {α : Type} : ∀ {l : List (List Int × α)} {x : List Int}, x ∉ l.map (·.1) → mget l x = none
  | [], _, _ => rfl
  | (k, u) :: r, x, h => by
    simp at h
    simp only [mget, if_neg (Ne.symm h.1)]
    exact mget_none (by simpa using h.2)
theorem mset_at {α : Type} : ∀ {l : List (List Int × α)} {x : List Int} {j : Nat} {v : α}, (l.map (·.1))[j]? = some x → (∀ i, i < j → (l.map (·.1))[i]? ≠ some x) → mset l x v = l.set j (x, v)
  | [], _, _, _, h, _ => by simp at h
  | (k, u) :: r, x, 0, v, h, _ => by simp at h; simp [mset, h]
  | (k, u) :: r, x, j + 1, v, h, hn => by
    have h0 := hn 0 (by omega)
    simp at h0
    simp only [mset, if_neg h0, List.set_cons_succ]
    rw [mset_at (j := j) (by simpa using h) fun i hi => by have := hn (i + 1) (by omega); simpa using this]
theorem mset_none {α : Type} : ∀ {l : List (List Int × α)} {x : List Int} {v : α}, x ∉ l.map (·.1) → mset l x v = l ++ [(x, v)]
  | [], _, _, _ => rfl
  | (k, u) :: r, x, v, h => by
    simp at h
    simp only [mset, if_neg (Ne.symm h.1), List.cons_append]
    rw [mset_none (by simpa using h.2)]
theorem mset_mem {α : Type} : ∀ {l : List (List Int × α)} {x : List Int} {v : α} {y : List Int × α}, y ∈ mset l x v → y ∈ l ∨ y.2 = v
  | [], x, v, y, h => by simp [mset] at h; exact .inr (by rw [h])
  | (k, u) :: r, x, v, y, h => by
    simp only [mset] at h
    split at h
    · rcases List.mem_cons.1 h with rfl | h
      · exact .inr rfl
      · exact .inl (by simp [h])
    · rcases List.mem_cons.1 h with rfl | h
      · exact .inl (by simp)
      · rcases mset_mem h with h | h
        · exact .inl (by simp [h])
        · exact .inr h
theorem mget_mem {α : Type} : ∀ {l : List (List Int × α)} {x : List Int} {v : α}, mget l x = some v → (x, v) ∈ l
  | [], _, _, h => by simp [mget] at h
  | (k, u) :: r, x, v, h => by
    simp only [mget] at h
    split at h
    · rename_i e; simp at h; subst e h; simp
    · exact List.mem_cons_of_mem _ (mget_mem h)
theorem mset_map {α β : Type} (f : α → β) : ∀ (l : List (List Int × α)) (x : List Int) (v : α), (mset l x v).map (fun y => (y.1, f y.2)) = mset (l.map fun y => (y.1, f y.2)) x (f v)
  | [], _, _ => rfl
  | (k, u) :: r, x, v => by
    simp only [mset, List.map_cons]
    split
    · simp
    · simp [mset_map f r x v]
theorem mset_keys_len {α : Type} {n : Nat} {l : List (List Int × α)} {x : List Int} {v : α} (h : ∀ y ∈ l, y.1.length = n) (hx : x.length = n) : ∀ y ∈ mset l x v, y.1.length = n := by
  induction l with
  | nil => simp [mset, hx]
  | cons z r ih =>
    obtain ⟨k, u⟩ := z
    simp only [mset]
    split
    · intro y hy
      rcases List.mem_cons.1 hy with rfl | hy
      · exact h (k, u) (by simp)
      · exact h y (by simp [hy])
    · intro y hy
      rcases List.mem_cons.1 hy with rfl | hy
      · exact h (k, u) (by simp)
      · exact ih (fun y hy => h y (by simp [hy])) y hy
theorem mget_mset {α : Type} : ∀ (l : List (List Int × α)) (x : List Int) (v : α) (y : List Int), mget (mset l x v) y = if x = y then some v else mget l y
  | [], x, v, y => by simp [mset, mget]
  | (k, u) :: r, x, v, y => by
    simp only [mset]
    split
    · rename_i e; subst e
      simp only [mget]
      split <;> rfl
    · rename_i e
      simp only [mget, mget_mset r x v y]
      by_cases h1 : k = y
      · simp only [h1, if_true]
        rw [if_neg (by rintro rfl; exact e h1)]
      · simp only [if_neg h1]

theorem map_pair {ents : List MapEntry} {kk : Bool} {l : List (List Int × Value)} (h : ents.map (fun e => (e.key, e.val)) = l.map (fun x => (keyV kk x.1, x.2))) : ents.map (·.key) = (l.map (·.1)).map (keyV kk) ∧ ents.map (·.val) = l.map (·.2) := by
  have h1 := congrArg (List.map Prod.fst) h
  have h2 := congrArg (List.map Prod.snd) h
  simp only [List.map_map] at h1 h2
  exact ⟨by rw [List.map_map]; exact h1, h2⟩
theorem map_ent {ents : List MapEntry} {kk : Bool} {l : List (List Int × Value)} (h : ents.map (fun e => (e.key, e.val)) = l.map (fun x => (keyV kk x.1, x.2))) {j : Nat} {e : MapEntry} (he : ents[j]? = some e) : ∃ x, l[j]? = some x ∧ e.key = keyV kk x.1 ∧ e.val = x.2 := by
  have h1 : (ents.map (fun e => (e.key, e.val)))[j]? = some (e.key, e.val) := by simp [he]
  rw [h, List.getElem?_map] at h1
  cases hl : l[j]? with
  | none => rw [hl] at h1; simp at h1
  | some x => rw [hl] at h1; simp at h1; exact ⟨x, rfl, h1.1.symm, h1.2.symm⟩
/-- looking a key up -/
theorem MapOk.find {P : Program} {w : World} {blk : Nat} {kt : TypeId} {kk : Bool} {len : Nat} {l : List (List Int × Value)} (K : KeyK P kt kk len) {ents : Array MapEntry} (h : ents.toList.map (fun e => (e.key, e.val)) = l.map (fun x => (keyV kk x.1, x.2)))
    (hl : ∀ y ∈ l, y.1.length = len) {xs : List Int} (hx : xs.length = len) :
    (∃ j v, (Instr.findKey kt (keyV kk xs) ents.toList).run P w = .ok (some (j, v)) w ∧ mget l xs = some v ∧ (l.map (·.1))[j]? = some xs ∧ (∀ i, i < j → (l.map (·.1))[i]? ≠ some xs)) ∨ ((Instr.findKey kt (keyV kk xs) ents.toList).run P w = .ok none w ∧ mget l xs = none ∧ xs ∉ l.map (·.1)) := by
  obtain ⟨h1, h2⟩ := map_pair h
  rcases K.find xs ents.toList (l.map (·.1)) w h1 (fun k hk => by obtain ⟨y, hy, rfl⟩ := List.mem_map.1 hk; exact hl y hy) hx with ⟨j, e, g1, g2, g3, g4⟩ | ⟨g1, g2⟩
  · obtain ⟨x, e1, e2, e3⟩ := map_ent h g2
    have : x.1 = xs := by rw [List.getElem?_map, e1] at g3; simpa using g3
    refine .inl ⟨j, _, g1, mget_at (j := j) (by rw [e1, ← this, e3]) g4, g3, g4⟩
  · exact .inr ⟨g1, mget_none g2, g2⟩
theorem run_lookup {P : Program} {w : World} {blk : Nat} {t kt vt : TypeId} {kk : Bool} {len : Nat} {l : List (List Int × Value)} (ht : P.underlying t = some (.map kt vt)) (K : KeyK P kt kk len) (hm : MapOk w blk kk l) (hl : ∀ y ∈ l, y.1.length = len) {xs : List Int} (hx : xs.length = len)
    {z : Value} (hz : (zeroValue vt).run P w = .ok z w) (ok : Bool) :
    (Instr.lookup t (.map (some blk)) (keyV kk xs) ok).run P w = .ok (if ok then .tuple #[(mget l xs).getD z, .bool (mget l xs).isSome] else (mget l xs).getD z) w := by
  obtain ⟨ents, clock, h1, h2, h3, h4⟩ := hm
  unfold Instr.lookup
  simp only [Sem.run_bind, run_underlying ht, Result.andThen, Go.MapKept.run_getObj_map h1, Sem.run_pure, K.chk _ _ _ hx]
  rcases MapOk.find (w := w) (blk := blk) K h2 hl hx with ⟨j, v, g1, g2, _⟩ | ⟨g1, g2, _⟩
  · simp only [g1, g2, Sem.run_pure]
    cases ok <;> rfl
  · simp only [g1, g2, Sem.run_bind, hz, Result.andThen, Sem.run_pure]
    cases ok <;> rfl
theorem run_keyStays {P : Program} {w : World} {kk : Bool} {xs : List Int} : (Instr.keyThatStays (keyV kk xs) (keyV kk xs)).run P w = .ok (keyV kk xs) w := by
  have h : Instr.sameBits 10000 (keyV kk xs) (keyV kk xs) = true := by
    cases kk with
    | true => simp [keyV, Instr.sameBits]
    | false =>
      simp only [keyV, cond_false, Instr.sameBits]
      simp
      intro a b hab
      rw [List.zip_map] at hab
      obtain ⟨p, hp, he⟩ := List.mem_map.1 hab
      have hpp : p.1 = p.2 := by
        have hz : ∀ (l : List Int) (q : Int × Int), q ∈ l.zip l → q.1 = q.2 := by
          intro l
          induction l with
          | nil => simp
          | cons x r ih =>
            intro q hq
            simp only [List.zip_cons_cons, List.mem_cons] at hq
            rcases hq with rfl | hq
            · rfl
            · exact ih q hq
        exact hz xs p hp
      have he1 := congrArg Prod.fst he
      have he2 := congrArg Prod.snd he
      simp only [Prod.map] at he1 he2
      rw [← he1, ← he2, hpp]
      simp [Instr.sameBits]
  unfold Instr.keyThatStays
  rw [h]
  rfl
theorem run_mapUpdate {P : Program} {w : World} {blk : Nat} {t kt vt : TypeId} {kk : Bool} {len : Nat} {l : List (List Int × Value)} (ht : P.underlying t = some (.map kt vt)) (K : KeyK P kt kk len) (hm : MapOk w blk kk l) (hl : ∀ y ∈ l, y.1.length = len) {xs : List Int} (hx : xs.length = len) (v : Value) :
    ∃ w', (Instr.mapUpdate t (.map (some blk)) (keyV kk xs) v).run P w = .ok () w' ∧ (∃ o, w' = w.putObj blk o) ∧ MapOk w' blk kk (mset l xs v) := by
  obtain ⟨ents, clock, h1, h2, h3, h4⟩ := hm
  have hlt : blk < w.heap.size := (Array.getElem?_eq_some_iff.1 h1).1
  rcases MapOk.find (w := w) (blk := blk) K h2 hl hx with ⟨j, v0, g1, g2, g3, g4⟩ | ⟨g1, g2, g3⟩
  · have hkey : ((ents[j]?).map (·.key)).getD (keyV kk xs) = keyV kk xs := by
      cases he : ents[j]? with
      | none => rfl
      | some e =>
        have he' : ents.toList[j]? = some e := by simpa using he
        obtain ⟨x, e1, e2, e3⟩ := map_ent h2 he'
        have : x.1 = xs := by rw [List.getElem?_map, e1] at g3; simpa using g3
        simp [e2, this]
    refine ⟨w.putObj blk (.map (ents.modify j fun e => { e with key := keyV kk xs, val := v }) clock), ?_, ⟨_, rfl⟩, ents.modify j fun e => { e with key := keyV kk xs, val := v }, clock, World.putObj_heap_same hlt, ?_, ?_, ?_⟩
    · unfold Instr.mapUpdate
      simp only [Sem.run_bind, run_underlying ht, Result.andThen, Go.MapKept.run_getObj_map h1, K.chk _ _ _ hx, g1, hkey, run_keyStays]
      exact Go.MapKept.run_setObj_map _ h1
    · rw [mset_at g3 g4, List.map_set, Array.toList_modify]
      apply List.ext_getElem?
      intro i
      rw [List.getElem?_map, List.getElem?_modify, List.getElem?_set]
      have h2i : (ents.toList.map (fun e => (e.key, e.val)))[i]? = (l.map (fun x => (keyV kk x.1, x.2)))[i]? := by rw [h2]
      rw [List.getElem?_map] at h2i
      by_cases hij : j = i
      · subst hij
        have hjl : j < l.length := by have := (List.getElem?_eq_some_iff.1 g3).1; simpa using this
        rw [List.getElem?_map, List.getElem?_eq_getElem hjl] at h2i
        cases he : ents.toList[j]? with
        | none => rw [he] at h2i; simp at h2i
        | some e => simp [hjl]
      · simp only [if_neg hij]
        rw [← h2i]
        cases ents.toList[i]? <;> rfl
    · rw [Array.toList_modify]
      have : ((ents.toList.modify j fun e => { e with key := keyV kk xs, val := v }).map fun e => e.born) = ents.toList.map fun e => e.born := by
        apply List.ext_getElem?
        intro i
        rw [List.getElem?_map, List.getElem?_modify, List.getElem?_map]
        cases ents.toList[i]? with
        | none => simp
        | some e => by_cases hij : j = i <;> simp [hij]
      rw [this]; exact h3
    · intro e he
      rw [Array.toList_modify] at he
      obtain ⟨i, hi⟩ := List.getElem?_of_mem he
      rw [List.getElem?_modify] at hi
      cases hh : ents.toList[i]? with
      | none => rw [hh] at hi; simp at hi
      | some e0 =>
        rw [hh] at hi
        have := h4 e0 (List.mem_of_getElem? hh)
        by_cases hij : j = i <;> simp [hij] at hi <;> subst hi <;> exact this
  · refine ⟨w.putObj blk (.map (ents.push { key := keyV kk xs, val := v, born := clock }) (clock + 1)), ?_, ⟨_, rfl⟩, ents.push { key := keyV kk xs, val := v, born := clock }, clock + 1, World.putObj_heap_same hlt, ?_, ?_, ?_⟩
    · unfold Instr.mapUpdate
      simp only [Sem.run_bind, run_underlying ht, Result.andThen, Go.MapKept.run_getObj_map h1, K.chk _ _ _ hx, g1]
      exact Go.MapKept.run_setObj_map _ h1
    · rw [mset_none g3]
      simp [h2]
    · simp only [Array.toList_push, List.map_append, List.map_cons, List.map_nil]
      refine List.nodup_append.2 ⟨h3, by simp, ?_⟩
      intro x hx y hy
      simp at hy
      obtain ⟨e, he, rfl⟩ := List.mem_map.1 hx
      have := h4 e he
      omega
    · intro e he
      simp only [Array.toList_push, List.mem_append, List.mem_singleton] at he
      rcases he with he | rfl
      · have := h4 e he; omega
      · show clock < clock + 1; omega

/-! the rules -/
def keyS (kk : Bool) (xs : List Int) : SV := bif kk then .v (.int .i64 (xs.headD 0)) else .a (xs.map fun x => .v (.int .i64 x))
theorem den_keyS (E : Env) (kk : Bool) (xs : List Int) : den E (keyS kk xs) = keyV kk xs := by
  cases kk with
  | true => rfl
  | false =>
    simp only [keyS, keyV, cond_false, den, dens_map, List.map_map]
    rfl
theorem p_makeMap {t : TypeId} (kk : Bool) {i : Nat} {rest : List Nat} {k : List Item} {o : Oper} (ho : headOp gd ops i = some o) (hop : o.op = .makeMap t none) (hfd : freshd gd o.dst = true)
    (hk : QS P XC X0 w0 b up fo R (.inRegion ops rest :: k) gd { (st.put o.dst (.m st.no)) with ob := (st.no, .mp kk []) :: st.ob, no := st.no + 1 }) : QS P XC X0 w0 b up fo R (.inRegion ops (i :: rest) :: k) gd st := by
  refine p_op ho (fun c hc => by rw [hop] at hc; cases hc) hfd (fun E a w hM => ?_) hk
  refine ⟨.value (.map (some w.heap.size)), .map (some w.heap.size), E.setId st.no w.heap.size, w.alloc (.map #[] 0), ?_, .inl rfl, ?_⟩
  · simp [execOp, hop, Instr.makeMap, Result.andThen]
  · obtain ⟨m, mv⟩ := hM.mem.next (old := none) (row := none) (by simp) (World.grownBy_alloc w (.map #[] 0) none) (setId_eq E st.no w.heap.size) hM.mem.unk hM.mem.val (o := .mp kk [])
      (fun b hb => by simp [blk, Env.setId] at hb; subst hb; exact ⟨by simp, .inl (Nat.le_refl _)⟩)
      ⟨#[], 0, by simp only [Env.setId, if_true]; exact heap_alloc_at _, rfl, by simp, by simp⟩ (by intro x hx; simp at hx)
    have hM1 := hM.trans m (by omega) (setId_eq _ _ _) mv
    have h := hM1.put o.dst (u := .m st.no) (v := .map (some w.heap.size)) (.m (Nat.lt_succ_self _)) (by simp [den, Env.setId])
    cases hd : o.dst <;> rw [hd] at h <;> exact h
theorem p_mapUpdate {t kt vt : TypeId} {kk : Bool} {len : Nat} (ht : P.underlying t = some (.map kt vt)) (K : KeyK P kt kk len) (xs : List Int) {i : Nat} {rest : List Nat} {k : List Item} {o : Oper} {m kx vx : Operand} {j : Nat} {es : List (List Int × SV)} {u : SV} (ho : headOp gd ops i = some o) (hop : o.op = .mapUpdate t m kx vx) (hfd : freshd gd o.dst = true)
    (hm : ev st m = some (.m j)) (hkx : ev st kx = some (keyS kk xs)) (hv : ev st vx = some u) (hn : nth st.ob j = some (.mp kk es)) (hl : ∀ y ∈ es, y.1.length = len) (hx : xs.length = len)
    (hk : QS P XC X0 w0 b up fo R (.inRegion ops rest :: k) gd { (st.put o.dst (.v undef)) with ob := upd st.ob j (.mp kk (mset es xs u)) }) : QS P XC X0 w0 b up fo R (.inRegion ops (i :: rest) :: k) gd st := by
  refine p_op ho (fun c hc => by rw [hop] at hc; cases hc) hfd (fun E a w hM => ?_) hk
  obtain ⟨e1, e2⟩ := ev_ok hM hm
  obtain ⟨e3, _⟩ := ev_ok hM hkx
  obtain ⟨e4, e5⟩ := ev_ok hM hv
  have hob : MapOk w (E.id j) kk (es.map fun x => (x.1, den E x.2)) := hM.mem.ob j _ hn
  have hoko : ∀ x ∈ es, Ok st.no (Ex XC E st.ob) w x.2 := hM.mem.oko j _ hn
  obtain ⟨w', h1, ⟨ob, rfl⟩, h3⟩ := run_mapUpdate (P := P) ht K hob (fun y hy => by obtain ⟨z, hz, rfl⟩ := List.mem_map.1 hy; exact hl z hz) hx (den E u)
  refine ⟨.skip, undef, E, w.putObj (E.id j) ob, ?_, .inr ⟨rfl, rfl⟩, ?_⟩
  · simp only [execOp, hop, e1, e3, e4, den_keyS, Sem.run_bind]
    rw [show den E (.m j) = .map (some (E.id j)) from rfl, h1]
    rfl
  · rw [← mset_map] at h3
    obtain ⟨m, mv⟩ := hM.mem.set (o' := .mp kk (mset es xs u)) hn (fun b h => h) (putObj_grown w (E.id j) ob) h3 (fun x hx => by
      rcases mset_mem hx with h | h
      · exact hoko x h
      · rw [h]; exact e5)
    have hM1 := hM.trans m (Nat.le_refl _) (EnvEq.refl _ _) mv
    have h := hM1.put o.dst (u := .v undef) (v := undef) (.v _) rfl
    cases hd : o.dst <;> rw [hd] at h <;> exact h
theorem p_lookup {t kt vt : TypeId} {kk : Bool} {len : Nat} (ht : P.underlying t = some (.map kt vt)) (K : KeyK P kt kk len) (xs : List Int) (r : Option SV) (z : SV) (hz : ∀ E w, (zeroValue vt).run P w = .ok (den E z) w) (hzo : plain z = true) {i : Nat} {rest : List Nat} {k : List Item} {o : Oper} {m kx : Operand} {ok : Bool} {j : Nat} {es : List (List Int × SV)} (ho : headOp gd ops i = some o) (hop : o.op = .lookup t m kx ok) (hfd : freshd gd o.dst = true)
    (hm : ev st m = some (.m j)) (hkx : ev st kx = some (keyS kk xs)) (hn : nth st.ob j = some (.mp kk es)) (hl : ∀ y ∈ es, y.1.length = len) (hx : xs.length = len) (hr : mget es xs = r)
    (hk : QS P XC X0 w0 b up fo R (.inRegion ops rest :: k) gd (st.put o.dst (if ok then .t [r.getD z, .v (.bool r.isSome)] else r.getD z))) : QS P XC X0 w0 b up fo R (.inRegion ops (i :: rest) :: k) gd st := by
  refine p_op ho (fun c hc => by rw [hop] at hc; cases hc) hfd (fun E a w hM => ?_) hk
  obtain ⟨e1, e2⟩ := ev_ok hM hm
  obtain ⟨e3, _⟩ := ev_ok hM hkx
  have hob : MapOk w (E.id j) kk (es.map fun x => (x.1, den E x.2)) := hM.mem.ob j _ hn
  have hoko : ∀ x ∈ es, Ok st.no (Ex XC E st.ob) w x.2 := hM.mem.oko j _ hn
  have h1 := run_lookup (P := P) ht K hob (fun y hy => by obtain ⟨z, hz, rfl⟩ := List.mem_map.1 hy; exact hl z hz) hx (hz E w) ok
  have hmap : ∀ l : List (List Int × SV), mget (l.map fun x => (x.1, den E x.2)) xs = (mget l xs).map (den E) := by
    intro l
    induction l with
    | nil => rfl
    | cons y r ih =>
      obtain ⟨k, v⟩ := y
      simp only [List.map_cons, mget]
      split
      · rfl
      · exact ih
  rw [hmap, hr] at h1
  have hok : Ok st.no (Ex XC E st.ob) w (r.getD z) := by
    cases r with
    | none => exact plain_ok _ _ _ _ hzo
    | some v => exact hoko _ (mget_mem hr)
  have hd : (r.map (den E)).getD (den E z) = den E (r.getD z) := by cases r <;> rfl
  have hsome : (r.map (den E)).isSome = r.isSome := by cases r <;> rfl
  rw [hd, hsome] at h1
  refine ⟨.value (den E (if ok then .t [r.getD z, .v (.bool r.isSome)] else r.getD z)), _, E, w, ?_, .inl rfl, hM.put o.dst ?_ rfl⟩
  · simp only [execOp, hop, e1, e3, den_keyS, Sem.run_bind]
    rw [show den E (.m j) = .map (some (E.id j)) from rfl, h1]
    cases ok <;> rfl
  · cases ok with
    | true =>
      refine .t fun u hu => ?_
      simp only [List.mem_cons, List.not_mem_nil, or_false] at hu
      rcases hu with rfl | rfl
      · exact hok
      · exact .v _
    | false => exact hok
theorem zero_of {t : TypeId} {i : TypeInfo} {z : Value} (h : P.info? t = some i) (hz : i.zero = some z) (w : World) : (zeroValue t).run P w = .ok z w := by
  simp [zeroValue, typeInfo, h, hz, Result.andThen]
end
end Go.SE
set_option linter.unusedVariables false
set_option linter.unusedSimpArgs false
namespace Go.SE
open Go.RowKit

section
variable {P : Program} {T : List (Nat × TI)} {XC X0 : Nat → Prop} {w0 : World} {b : Frame} {st : St} {E : Env} {a : Act} {w : World} {obs ob : List (Nat × Ob)} {N n : Nat}
variable {up : List Frame} {fo : Nat} {R : Ending → World → Prop} {todo t : List Item} {gd gd' : List (Nat × Bool)} {st' : St} {ops : Array Oper} {W : List Nat} {k : List Item} {p p' : Plan} {m m' : Bool}

/-! ### contracts of functions that write to their caller's objects -/
/-- At these arguments, over these objects: what it hands back, and what is left. -/
structure MutC (P : Program) (f : Nat) (args : List SV) (ob : List (Nat × Ob)) (no : Nat) (Y : Type) (res : Y → SV) (ob' : Y → List (Nat × Ob)) (no' : Y → Nat) (post : Y → Prop) : Prop where
  ent : Ent P f
  calls : ∀ (XC : Nat → Prop) (E : Env) (w : World), Mem XC (Has E ob) w ob no E w → (∀ b, XC b → b < w.heap.size ∧ ¬ Has E ob b) → (∀ u ∈ args, Ok no (Ex XC E ob) w u) →
    Calls P f (dens E args).toArray w fun e w' => ∃ y E', post y ∧ EnvEq no E E' ∧ e = .returned (den E' (res y)) ∧ Mem XC (Has E ob) w (ob' y) (no' y) E' w' ∧ no ≤ no' y ∧ Ok (no' y) (Ex XC E' (ob' y)) w' (res y)

/-- What of a state goes into a call. -/
theorem Mem.loc (hm : Mem XC X0 w0 obs N E w) (σ : Nat → Nat) (ho : subOb σ n ob obs) (hi : nodupB σ ob = true) :
    Mem (fun b => Ex XC E obs b ∧ ¬ Has (E.ren σ) ob b) (Has (E.ren σ) ob) w ob n (E.ren σ) w ∧ (∀ b, Has (E.ren σ) ob b → Has E obs b) ∧ ∀ b, Ex (fun b => Ex XC E obs b ∧ ¬ Has (E.ren σ) ob b) (E.ren σ) ob b ↔ Ex XC E obs b := by
  have hob : ∀ i o, nth ob i = some o → ∃ o', nth obs (σ i) = some o' ∧ obSub σ n o (some o') ∧ i < n := fun i o h => by
    obtain ⟨h1, h2⟩ := subOb_nth ho h
    cases hn : nth obs (σ i) with
    | none => rw [hn] at h1; cases o <;> exact h1.elim
    | some o' => exact ⟨o', rfl, by rw [← hn]; exact h1, h2⟩
  have hhas : ∀ b, Has (E.ren σ) ob b → Has E obs b := fun b ⟨i, o, h, hb⟩ => by
    obtain ⟨o', h1, h2, _⟩ := hob i o h
    exact ⟨σ i, o', h1, obSub_blk h2 hb⟩
  have hex : ∀ b, Ex (fun b => Ex XC E obs b ∧ ¬ Has (E.ren σ) ob b) (E.ren σ) ob b ↔ Ex XC E obs b := fun b => by
    constructor
    · rintro (h | h)
      · exact .inl (hhas b h)
      · exact h.1
    · intro h
      by_cases h2 : Has (E.ren σ) ob b
      · exact .inl h2
      · exact .inr ⟨h, h2⟩
  have mv : ∀ u, Ok N (Ex XC E obs) w (ren σ u) → scp n u = true → Ok n (Ex (fun b => Ex XC E obs b ∧ ¬ Has (E.ren σ) ob b) (E.ren σ) ob) w u := fun u hu hs =>
    (hu.unren σ u hs).move (Nat.le_refl _) (Nat.le_refl _) fun b _ hX => ⟨fun h => hX ((hex b).1 h), rfl⟩
  refine ⟨⟨Fr.refl _ _, fun i o h => ?_, fun b h => ⟨(hm.lt b (hhas b h)).1, .inl h⟩, fun i j o o' b h h' hb hb' => ?_, fun i o h => (hob i o h).elim fun _ h => h.2.2, fun i o h => ?_, fun j => hm.unk _, fun j => hm.val _⟩, hhas, hex⟩
  · obtain ⟨o', h1, h2, _⟩ := hob i o h
    have h3 := hm.ob _ _ h1
    cases o <;> cases o' <;> first | exact h2.elim | trivial | skip
    · obtain ⟨rfl, rfl, _⟩ := h2
      refine ⟨by rw [← dens_ren]; exact h3.1, fun u hu => ?_⟩
      rw [← one_ren σ u]
      exact h3.2 _ (by rw [rens_map]; exact List.mem_map.2 ⟨u, hu, rfl⟩)
    · obtain ⟨rfl, rfl, rfl, he⟩ := h2
      refine ⟨by rw [← flat_congr he]; exact h3.1, fun j hj => by rw [← he j hj]; exact h3.2.1 j hj, h3.2.2⟩
    · obtain ⟨rfl, rfl⟩ := h2
      exact h3
    · obtain ⟨rfl, rfl, _⟩ := h2
      obtain ⟨ents, clock, g1, g2, g3⟩ := h3
      refine ⟨ents, clock, g1, ?_, g3⟩
      rw [g2, List.map_map, List.map_map, List.map_map]
      exact List.map_congr_left fun x _ => by simp only [Function.comp, den_ren]
  · obtain ⟨p, h1, h2, _⟩ := hob i o h
    obtain ⟨p', h1', h2', _⟩ := hob j o' h'
    exact nodupB_inj hi (nth_mem h) (nth_mem h') (hm.ne _ _ _ _ b h1 h1' (obSub_blk h2 hb) (obSub_blk h2' hb'))
  · obtain ⟨o', h1, h2, _⟩ := hob i o h
    have h3 := hm.ob _ _ h1
    have h4 := hm.oko _ _ h1
    cases o <;> cases o' <;> first | exact h2.elim | trivial | skip
    · obtain ⟨rfl, rfl, h5⟩ := h2
      intro u hu
      have : scp n u = true := by
        have hs : ∀ (l : List SV), scps n l = true → ∀ u ∈ l, scp n u = true := by
          intro l
          induction l with
          | nil => simp
          | cons x r ih =>
            intro h u hu
            simp only [scps, Bool.and_eq_true] at h
            rcases List.mem_cons.1 hu with rfl | hu
            · exact h.1
            · exact ih h.2 u hu
        exact hs _ h5 u hu
      exact mv u (h4 _ (by rw [rens_map]; exact List.mem_map.2 ⟨u, hu, rfl⟩)) this
    · obtain ⟨rfl, rfl, rfl, he⟩ := h2
      intro j hj u hu
      rw [← he j hj] at hu
      exact (((h4 j hj u hu).scope0 ((h3.2.1 j hj).2 u hu).2).move (Nat.zero_le _) (Nat.le_refl _) fun b _ hX => ⟨fun h => hX ((hex b).1 h), rfl⟩)
    · obtain ⟨rfl, rfl, h5⟩ := h2
      exact fun x hx => mv _ (h4 (x.1, ren σ x.2) (List.mem_map.2 ⟨x, hx, rfl⟩)) (List.all_eq_true.1 h5 x hx)

/-- With other names, told of more. -/
theorem Ok.fwd {N n : Nat} {X : Nat → Prop} {u : SV} {σ : Nat → Nat} (hσ : ∀ i, i < n → σ i < N) (h : Ok n X w u) : Ok N X w (ren σ u) := by
  induction h with
  | v => exact .v _
  | p off hi => exact .p _ (hσ _ hi)
  | own hi => exact .own (hσ _ hi)
  | q ix k off hi => exact .q _ _ _ (hσ _ hi)
  | x hi => exact .x (hσ _ hi)
  | y hi => exact .y (hσ _ hi)
  | m hi => exact .m (hσ _ hi)
  | ifc _ ih => exact .ifc ih
  | a _ ih => simp only [ren, rens_map]; exact .a fun u hu => by obtain ⟨y, hy, rfl⟩ := List.mem_map.1 hu; exact ih y hy
  | t _ ih => simp only [ren, rens_map]; exact .t fun u hu => by obtain ⟨y, hy, rfl⟩ := List.mem_map.1 hu; exact ih y hy
  | f _ ih => simp only [ren, rens_map]; exact .f fun u hu => by obtain ⟨y, hy, rfl⟩ := List.mem_map.1 hu; exact ih y hy
  | s hm hc h hp ho _ => exact .s hm hc h hp fun i hi u hu => ((ho i hi u hu).scope0 (hp i hi u hu).1).move (Nat.zero_le _) (Nat.le_refl _) fun b _ hX => ⟨hX, rfl⟩
  | e hs hX h hp ho _ => exact .e hs hX h hp fun u hu => ((ho u hu).scope0 (hp u hu).1).move (Nat.zero_le _) (Nat.le_refl _) fun b _ hX => ⟨hX, rfl⟩

def renO (σ : Nat → Nat) : Ob → Ob
  | .cells cs ty => .cells (rens σ cs) ty
  | .mp kk es => .mp kk (es.map fun x => (x.1, ren σ x.2))
  | o => o
/-- the names behind a call -/
def sigA (σ : Nat → Nat) (no N : Nat) : Nat → Nat := fun i => if i < no then σ i else N + (i - no)
def backO (σ : Nat → Nat) : List (Nat × Ob) → Nat → Option Nat
  | [], _ => none
  | (i, _) :: r, j => if σ i = j then some i else backO σ r j
def oldO (σ σ' : Nat → Nat) (ob ob' : List (Nat × Ob)) : List (Nat × Ob) → List (Nat × Ob)
  | [] => []
  | (j, o) :: r => (j, match backO σ ob j with
    | some i => match nth ob' i with
      | some o' => renO σ' o'
      | none => .gone
    | none => o) :: oldO σ σ' ob ob' r
def newO (σ' : Nat → Nat) (no : Nat) : List (Nat × Ob) → List (Nat × Ob) → List (Nat × Ob)
  | [], l => l
  | (i, o) :: r, l => if i < no then newO σ' no r l else (σ' i, renO σ' o) :: newO σ' no r l
/-- the objects behind a call -/
def merge (σ : Nat → Nat) (no N : Nat) (ob ob' obs : List (Nat × Ob)) : List (Nat × Ob) := newO (sigA σ no N) no ob' (oldO σ (sigA σ no N) ob ob' obs)

theorem backO_some {σ : Nat → Nat} {ob : List (Nat × Ob)} {j i : Nat} (h : backO σ ob j = some i) : σ i = j ∧ ∃ o, nth ob i = some o := by
  induction ob with
  | nil => simp [backO] at h
  | cons x r ih =>
    obtain ⟨k, o⟩ := x
    simp only [backO] at h
    split at h
    · rename_i e; simp at h; subst h; exact ⟨e, o, by simp [nth]⟩
    · obtain ⟨h1, o', h2⟩ := ih h
      refine ⟨h1, ?_⟩
      simp only [nth]
      split
      · exact ⟨o, rfl⟩
      · exact ⟨o', h2⟩
theorem backO_none {σ : Nat → Nat} {ob : List (Nat × Ob)} {j : Nat} (h : backO σ ob j = none) {i : Nat} {o : Ob} (ho : nth ob i = some o) : σ i ≠ j := by
  induction ob with
  | nil => simp [nth] at ho
  | cons x r ih =>
    obtain ⟨k, o'⟩ := x
    simp only [backO] at h
    split at h
    · simp at h
    · rename_i e
      simp only [nth] at ho
      split at ho
      · rename_i e2; subst e2; exact e
      · exact ih h ho
theorem nth_oldO (σ σ' : Nat → Nat) (ob ob' obs : List (Nat × Ob)) (j : Nat) : nth (oldO σ σ' ob ob' obs) j = (nth obs j).map fun o => match backO σ ob j with
    | some i => match nth ob' i with
      | some o' => renO σ' o'
      | none => .gone
    | none => o := by
  induction obs with
  | nil => rfl
  | cons x r ih =>
    obtain ⟨k, o⟩ := x
    simp only [oldO, nth]
    split
    · rename_i e; subst e; rfl
    · exact ih
theorem nth_newO {σ' : Nat → Nat} {no : Nat} : ∀ {ob' l : List (Nat × Ob)} {j : Nat} {o : Ob}, nth (newO σ' no ob' l) j = some o → (∃ i o', (i, o') ∈ ob' ∧ no ≤ i ∧ σ' i = j ∧ o = renO σ' o') ∨ nth l j = some o
  | [], l, j, o, h => .inr h
  | (i, o') :: r, l, j, o, h => by
    simp only [newO] at h
    split at h
    · rcases nth_newO h with ⟨i2, o2, h1, h2⟩ | h
      · exact .inl ⟨i2, o2, by simp [h1], h2⟩
      · exact .inr h
    · rename_i hi
      simp only [nth] at h
      split at h
      · rename_i e
        simp at h
        exact .inl ⟨i, o', by simp, by omega, e, h.symm⟩
      · rcases nth_newO h with ⟨i2, o2, h1, h2⟩ | h
        · exact .inl ⟨i2, o2, by simp [h1], h2⟩
        · exact .inr h
/-- of an object that comes up first under its name -/
theorem nth_newO' {σ' : Nat → Nat} {no : Nat} : ∀ {ob' l : List (Nat × Ob)} {j : Nat} {o : Ob}, (∀ i i', no ≤ i → no ≤ i' → σ' i = σ' i' → i = i') → nth (newO σ' no ob' l) j = some o → (∃ i o', nth ob' i = some o' ∧ no ≤ i ∧ σ' i = j ∧ o = renO σ' o') ∨ nth l j = some o
  | [], l, j, o, _, h => .inr h
  | (i, o') :: r, l, j, o, inj, h => by
    simp only [newO] at h
    split at h
    · rename_i hi
      rcases nth_newO' inj h with ⟨i2, o2, h1, h2, h3⟩ | h
      · refine .inl ⟨i2, o2, ?_, h2, h3⟩
        simp only [nth]
        rw [if_neg (by omega)]
        exact h1
      · exact .inr h
    · rename_i hi
      simp only [nth] at h
      split at h
      · rename_i e
        simp at h
        exact .inl ⟨i, o', by simp [nth], by omega, e, h.symm⟩
      · rename_i e
        rcases nth_newO' inj h with ⟨i2, o2, h1, h2, h3, h4⟩ | h
        · refine .inl ⟨i2, o2, ?_, h2, h3, h4⟩
          simp only [nth]
          rw [if_neg (by rintro rfl; exact e h3)]
          exact h1
        · exact .inr h
def Env.join (E E' : Env) (no N : Nat) : Env := ⟨fun i => if i < N then E.id i else E'.id (no + (i - N)), fun i => if i < N then E.val i else E'.val (no + (i - N)), fun i => if i < N then E.unk i else E'.unk (no + (i - N))⟩

/-- What comes back out of a call. -/
theorem Mem.back {E' : Env} {w' : World} {no no' : Nat} {ob' : List (Nat × Ob)} (hm : Mem XC X0 w0 obs N E w) (hXC : ∀ b, XC b → b < w0.heap.size ∧ ¬ X0 b) (σ : Nat → Nat) (hσ : ∀ i, i < no → σ i < N) (ho : subOb σ no ob obs)
    (hm' : Mem (fun b => Ex XC E obs b ∧ ¬ Has (E.ren σ) ob b) (Has (E.ren σ) ob) w ob' no' E' w') (hhas : ∀ b, Has (E.ren σ) ob b → Has E obs b) (he : EnvEq no (E.ren σ) E') (hno : no ≤ no') :
    Mem XC X0 w0 (merge σ no N ob ob' obs) (N + (no' - no)) (E.join E' no N) w' ∧ EnvEq N E (E.join E' no N) ∧ (∀ u, Ok N (Ex XC E obs) w u → Ok (N + (no' - no)) (Ex XC (E.join E' no N) (merge σ no N ob ob' obs)) w' u) ∧
    (∀ u, Ok no' (Ex (fun b => Ex XC E obs b ∧ ¬ Has (E.ren σ) ob b) E' ob') w' u → Ok (N + (no' - no)) (Ex XC (E.join E' no N) (merge σ no N ob ob' obs)) w' (ren (sigA σ no N) u) ∧ den (E.join E' no N) (ren (sigA σ no N) u) = den E' u) := by
  have heq : EnvEq N E (E.join E' no N) := fun i hi => by simp [Env.join, hi]
  have hsig : ∀ i, i < no' → sigA σ no N i < N + (no' - no) := fun i hi => by
    unfold sigA
    split
    · rename_i h; have := hσ i h; omega
    · omega
  have inj : ∀ i i', no ≤ i → no ≤ i' → sigA σ no N i = sigA σ no N i' → i = i' := fun i i' h h' e => by
    unfold sigA at e
    rw [if_neg (by omega), if_neg (by omega)] at e
    omega
  have hren : EnvEq no' ((E.join E' no N).ren (sigA σ no N)) E' := fun i hi => by
    by_cases h : i < no
    · have h1 := hσ i h
      have h2 := he i h
      simp only [Env.ren] at h2
      refine ⟨?_, ?_, ?_⟩ <;> simp only [Env.ren, Env.join, sigA, h, if_true, h1] <;> first | exact h2.1 | exact h2.2.1 | exact h2.2.2
    · have h1 : ¬ (N + (i - no) < N) := by omega
      have h2 : no + (N + (i - no) - N) = i := by omega
      refine ⟨?_, ?_, ?_⟩ <;> simp only [Env.ren, Env.join, sigA, h, if_false, h1, h2]
  -- where an object comes from
  have src : ∀ j o, nth (merge σ no N ob ob' obs) j = some o → (∃ i o', nth ob' i = some o' ∧ sigA σ no N i = j ∧ o = renO (sigA σ no N) o') ∨ (nth obs j = some o ∧ ∀ i o1, nth ob i = some o1 → σ i ≠ j) ∨ o = .gone ∧ j < N := fun j o h => by
    rcases nth_newO' inj h with ⟨i, o', h1, h2, h3, h4⟩ | h
    · exact .inl ⟨i, o', h1, h3, h4⟩
    · rw [nth_oldO] at h
      cases hn : nth obs j with
      | none => rw [hn] at h; simp at h
      | some o0 =>
        rw [hn] at h
        simp only [Option.map_some, Option.some.injEq] at h
        split at h
        · rename_i i hb
          obtain ⟨h1, o1, h2⟩ := backO_some hb
          have hlt := (subOb_nth ho h2).2
          split at h
          · rename_i o' ho'
            exact .inl ⟨i, o', ho', by simp [sigA, hlt, h1], h.symm⟩
          · exact .inr (.inr ⟨h.symm, hm.no j _ hn⟩)
        · rename_i hb
          exact .inr (.inl ⟨by rw [← h], fun i o1 h1 => backO_none hb h1⟩)
  have bblk : ∀ i o', nth ob' i = some o' → blk (E.join E' no N) (sigA σ no N i) (renO (sigA σ no N) o') = blk E' i o' := fun i o' h => by
    have hi := hm'.no i o' h
    have h1 := hren i hi
    simp only [Env.ren] at h1
    cases o' <;> simp [renO, blk, h1.1, h1.2.1]
  have ablk : ∀ j o, nth obs j = some o → blk (E.join E' no N) j o = blk E j o := fun j o h => blk_env (hm.no j o h) heq o
  -- the blocks
  have hasN : ∀ b, Has (E.join E' no N) (merge σ no N ob ob' obs) b → Has E' ob' b ∨ (Has E obs b ∧ ¬ Has (E.ren σ) ob b) := by
    rintro b ⟨j, o, h, hb⟩
    rcases src j o h with ⟨i, o', h1, rfl, rfl⟩ | ⟨h1, h2⟩ | ⟨rfl, _⟩
    · rw [bblk i o' h1] at hb; exact .inl ⟨i, o', h1, hb⟩
    · rw [ablk j o h1] at hb
      refine .inr ⟨⟨j, o, h1, hb⟩, ?_⟩
      rintro ⟨i, o1, g1, g2⟩
      obtain ⟨s1, s2⟩ := subOb_nth ho g1
      cases hn : nth obs (σ i) with
      | none => rw [hn] at s1; cases o1 <;> exact s1.elim
      | some o2 =>
        rw [hn] at s1
        exact h2 i o1 g1 (hm.ne _ _ _ _ b hn h1 (obSub_blk s1 g2) hb)
    · simp [blk] at hb
  have lt' : ∀ b, Has E' ob' b → b < w'.heap.size ∧ (Has E obs b ∨ w.heap.size ≤ b) := fun b h => by
    obtain ⟨h1, h2⟩ := hm'.lt b h
    exact ⟨h1, h2.imp (hhas b) id⟩
  have frb : ∀ b, b < w.heap.size → ¬ Has (E.ren σ) ob b → w'.heap[b]? = w.heap[b]? := hm'.fr.block
  have exN : ∀ b, Ex XC (E.join E' no N) (merge σ no N ob ob' obs) b → Ex (fun b => Ex XC E obs b ∧ ¬ Has (E.ren σ) ob b) E' ob' b := fun b h => by
    rcases h with h | h
    · rcases hasN b h with h | ⟨h, h2⟩
      · exact .inl h
      · exact .inr ⟨.inl h, h2⟩
    · refine .inr ⟨.inr h, fun h2 => ?_⟩
      rcases (hm.lt b (hhas b h2)).2 with h3 | h3
      · exact (hXC b h).2 h3
      · have := (hXC b h).1; omega
  have mv : ∀ u, Ok N (Ex XC E obs) w u → Ok (N + (no' - no)) (Ex XC (E.join E' no N) (merge σ no N ob ob' obs)) w' u := fun u hu =>
    hu.move (by omega) hm'.fr.size fun b hb hX => ⟨fun h => by
      rcases exN b h with h | h
      · rcases (lt' b h).2 with h | h
        · exact hX (.inl h)
        · omega
      · exact hX h.1, frb b hb fun h => hX (.inl (hhas b h))⟩
  have fw : ∀ u, Ok no' (Ex (fun b => Ex XC E obs b ∧ ¬ Has (E.ren σ) ob b) E' ob') w' u → Ok (N + (no' - no)) (Ex XC (E.join E' no N) (merge σ no N ob ob' obs)) w' (ren (sigA σ no N) u) := fun u hu =>
    (hu.fwd hsig).move (Nat.le_refl _) (Nat.le_refl _) fun b _ hX => ⟨fun h => hX (exN b h), rfl⟩
  have dn : ∀ u, Ok no' (Ex (fun b => Ex XC E obs b ∧ ¬ Has (E.ren σ) ob b) E' ob') w' u → den (E.join E' no N) (ren (sigA σ no N) u) = den E' u := fun u hu => by
    rw [den_ren]; exact den_env hu hren
  refine ⟨⟨⟨hm'.fr.os.trans hm.fr.os, hm'.fr.tape.trans hm.fr.tape, hm'.fr.output.trans hm.fr.output, Nat.le_trans hm.fr.size hm'.fr.size, fun b hb hX => ?_⟩, fun j o h => ?_, fun b h => ?_, fun j1 j2 o1 o2 b h1 h2 hb1 hb2 => ?_, fun j o h => ?_, fun j o h => ?_, fun j => ?_, fun j => ?_⟩, heq, mv, fun u hu => ⟨fw u hu, dn u hu⟩⟩
  · rw [frb b (Nat.lt_of_lt_of_le hb hm.fr.size)]
    · exact hm.fr.block b hb hX
    · intro h
      rcases (hm.lt b (hhas b h)).2 with h | h
      · exact hX h
      · omega
  · rcases src j o h with ⟨i, o', h1, rfl, rfl⟩ | ⟨h1, h2⟩ | ⟨rfl, _⟩
    · have hi := hren i (hm'.no i o' h1)
      simp only [Env.ren] at hi
      have g1 := hm'.ob i o' h1
      have g2 := hm'.oko i o' h1
      cases o' with
      | cells cs ty =>
        refine ⟨?_, fun u hu => ?_⟩
        · rw [hi.1, show dens (E.join E' no N) (rens (sigA σ no N) cs) = dens E' cs by
            rw [dens_map, rens_map, List.map_map, dens_map]
            exact List.map_congr_left fun u hu => dn u (g2 u hu)]
          exact g1.1
        · rw [rens_map] at hu
          obtain ⟨x, hx, rfl⟩ := List.mem_map.1 hu
          rw [one_ren]; exact g1.2 x hx
      | row e k n el => exact ⟨by rw [hi.2.1]; exact g1.1, g1.2⟩
      | mark => show w'.heap[_]? = _; rw [hi.1]; exact g1
      | lp l r => exact ⟨by rw [hi.1]; exact g1.1, by rw [hi.1]; exact g1.2⟩
      | mp kk es =>
        obtain ⟨ents, clock, q1, q2, q3⟩ := g1
        refine ⟨ents, clock, by rw [hi.1]; exact q1, ?_, q3⟩
        rw [q2, List.map_map, List.map_map, List.map_map]
        exact List.map_congr_left fun x hx => by simp only [Function.comp, dn x.2 (g2 x hx)]
      | gone => trivial
    · exact (hm.ob j o h1).keep (hm.oko j o h1) (hm.no j o h1) heq fun b hb => frb b (hm.lt b ⟨j, o, h1, hb⟩).1 (by
        rintro ⟨i, p1, g1, g2⟩
        obtain ⟨s1, s2⟩ := subOb_nth ho g1
        cases hn : nth obs (σ i) with
        | none => rw [hn] at s1; cases p1 <;> exact s1.elim
        | some p2 =>
          rw [hn] at s1
          exact h2 i p1 g1 (hm.ne _ _ _ _ b hn h1 (obSub_blk s1 g2) hb))
    · trivial
  · rcases hasN b h with h | ⟨h, _⟩
    · obtain ⟨h1, h2⟩ := lt' b h
      refine ⟨h1, ?_⟩
      rcases h2 with h2 | h2
      · exact (hm.lt b h2).2
      · exact .inr (Nat.le_trans hm.fr.size h2)
    · obtain ⟨h1, h2⟩ := hm.lt b h
      exact ⟨Nat.lt_of_lt_of_le h1 hm'.fr.size, h2⟩
  · have apart : ∀ i o' j o, nth ob' i = some o' → blk E' i o' = some b → nth obs j = some o → (∀ i o1, nth ob i = some o1 → σ i ≠ j) → blk E j o = some b → False := fun i o' j o g1 g2 g3 g4 g5 => by
      have hl := hm'.lt b ⟨i, o', g1, g2⟩
      rcases hl.2 with ⟨i2, o2, q1, q2⟩ | hl
      · obtain ⟨s1, s2⟩ := subOb_nth ho q1
        cases hn : nth obs (σ i2) with
        | none => rw [hn] at s1; cases o2 <;> exact s1.elim
        | some p2 =>
          rw [hn] at s1
          exact g4 i2 o2 q1 (hm.ne _ _ _ _ b hn g3 (obSub_blk s1 q2) g5)
      · have := (hm.lt b ⟨j, o, g3, g5⟩).1
        omega
    rcases src j1 o1 h1 with ⟨i1, p1, e1, rfl, rfl⟩ | ⟨e1, e2⟩ | ⟨rfl, _⟩
    · rw [bblk i1 p1 e1] at hb1
      rcases src j2 o2 h2 with ⟨i2, p2, f1, rfl, rfl⟩ | ⟨f1, f2⟩ | ⟨rfl, _⟩
      · rw [bblk i2 p2 f1] at hb2
        rw [hm'.ne i1 i2 p1 p2 b e1 f1 hb1 hb2]
      · rw [ablk j2 o2 f1] at hb2
        exact (apart i1 p1 j2 o2 e1 hb1 f1 f2 hb2).elim
      · simp [blk] at hb2
    · rw [ablk j1 o1 e1] at hb1
      rcases src j2 o2 h2 with ⟨i2, p2, f1, rfl, rfl⟩ | ⟨f1, f2⟩ | ⟨rfl, _⟩
      · rw [bblk i2 p2 f1] at hb2
        exact (apart i2 p2 j1 o1 f1 hb2 e1 e2 hb1).elim
      · rw [ablk j2 o2 f1] at hb2
        exact hm.ne j1 j2 o1 o2 b e1 f1 hb1 hb2
      · simp [blk] at hb2
    · simp [blk] at hb1
  · rcases src j o h with ⟨i, o', h1, rfl, rfl⟩ | ⟨h1, h2⟩ | ⟨rfl, hj⟩
    · exact hsig i (hm'.no i o' h1)
    · have := hm.no j o h1; omega
    · omega
  · rcases src j o h with ⟨i, o', h1, rfl, rfl⟩ | ⟨h1, h2⟩ | ⟨rfl, _⟩
    · have g1 := hm'.ob i o' h1
      have g2 := hm'.oko i o' h1
      cases o' with
      | cells cs ty =>
        intro u hu
        rw [rens_map] at hu
        obtain ⟨x, hx, rfl⟩ := List.mem_map.1 hu
        exact fw x (g2 x hx)
      | row e k n el =>
        intro j' hj u hu
        exact ((g2 j' hj u hu).scope0 ((g1.2.1 j' hj).2 u hu).2).move (Nat.zero_le _) (Nat.le_refl _) fun b _ hX => ⟨fun h => hX (exN b h), rfl⟩
      | mp kk es =>
        intro x hx
        obtain ⟨y, hy, rfl⟩ := List.mem_map.1 hx
        exact fw y.2 (g2 y hy)
      | _ => trivial
    · exact (hm.oko j o h1).move mv
    · trivial
  · show (if j < N then E.unk j else _).oneCell' = true
    split
    · exact hm.unk j
    · exact hm'.unk _
  · show (if j < N then E.val j else _).oneCell' = true
    split
    · exact hm.val j
    · exact hm'.val _

/-- what is left behind a call -/
def St.callM (st : St) (d : Option Tmp) (σ : Nat → Nat) (no no' : Nat) (ob ob' : List (Nat × Ob)) (r : SV) : St :=
  ({ st with ob := merge σ no st.no ob ob' st.ob, no := st.no + (no' - no) } : St).put d (ren (sigA σ no st.no) r)
theorem callM_models {E' : Env} {w' : World} {no no' : Nat} {ob' : List (Nat × Ob)} {r : SV} (hM : Models XC X0 w0 st E a w) (hXC : ∀ b, XC b → b < w0.heap.size ∧ ¬ X0 b) (d : Option Tmp) (σ : Nat → Nat) (hσ : ∀ i, i < no → σ i < st.no) (ho : subOb σ no ob st.ob)
    (hm' : Mem (fun b => Ex XC E st.ob b ∧ ¬ Has (E.ren σ) ob b) (Has (E.ren σ) ob) w ob' no' E' w') (hhas : ∀ b, Has (E.ren σ) ob b → Has E st.ob b) (he : EnvEq no (E.ren σ) E') (hno : no ≤ no') (hr : Ok no' (Ex (fun b => Ex XC E st.ob b ∧ ¬ Has (E.ren σ) ob b) E' ob') w' r) :
    Models XC X0 w0 (st.callM d σ no no' ob ob' r) (E.join E' no st.no) (a.put d (den E' r)) w' ∧ EnvEq st.no E (E.join E' no st.no) := by
  obtain ⟨m, e, mv, fw⟩ := hM.mem.back hXC σ hσ ho hm' hhas he hno
  have hM1 := hM.trans m (by omega) e mv
  exact ⟨hM1.put d (fw r hr).1 (fw r hr).2.symm, e⟩
theorem ok_args {no : Nat} {X X' : Nat → Prop} {σ : Nat → Nat} (hx : ∀ b, X' b → X b) {args : List SV} (hs : scps no args = true) (h : ∀ u ∈ rens σ args, Ok N X w u) : ∀ u ∈ args, Ok no X' w u := fun u hu =>
  (Ok.unrens (n := no) σ args h hs u hu).move (Nat.le_refl _) (Nat.le_refl _) fun b _ hX => ⟨fun h => hX (hx b h), rfl⟩
def allLt (σ : Nat → Nat) (no N : Nat) : Bool := (List.range no).all fun i => decide (σ i < N)
theorem allLt_ok {σ : Nat → Nat} {no N : Nat} (h : allLt σ no N = true) : ∀ i, i < no → σ i < N := fun i hi => by
  have := List.all_eq_true.1 h i (by simpa using hi)
  simpa using this
/-- A call by such a contract. -/
theorem p_callM (C : Ctx P T) {i : Nat} {rest : List Nat} {o : Oper} {g : Nat} {args args' : List SV} {no : Nat} {Y : Type} {res : Y → SV} {ob' : Y → List (Nat × Ob)} {no' : Y → Nat} {post : Y → Prop} (σ : Nat → Nat) (hc : MutC P g args ob no Y res ob' no' post)
    (ho : headOp gd ops i = some o) (he : exec T st o = .call g args') (hargs : args' = rens σ args) (hfd : freshd gd o.dst = true) (hlt : allLt σ no st.no = true) (hsc : scps no args = true) (hob : subOb σ no ob st.ob) (hnd : nodupB σ ob = true)
    (hk : ∀ y, post y → QS P XC X0 w0 b up fo R (.inRegion ops rest :: k) gd (st.callM o.dst σ no (no' y) ob (ob' y) (res y))) : QS P XC X0 w0 b up fo R (.inRegion ops (i :: rest) :: k) gd st := by
  subst hargs
  intro hXC E a w hM hgd
  obtain ⟨h1, h2⟩ := headOp_ok ho hgd
  have hx := exec_ok C.tab C.eq hM o
  rw [he] at hx
  obtain ⟨g1, g2⟩ := hx
  have hdf : ∀ c, o.op ≠ .defer c := fun c hc => by rw [exec_defer hc] at he; cases he
  obtain ⟨m, hhas, hex⟩ := hM.mem.loc σ hob hnd
  have hcall := hc.calls _ (E.ren σ) w m (fun b hb => ⟨hM.exlt (fun b h => (hXC b h).1) b hb.1, hb.2⟩) (ok_args (fun b h => (hex b).1 h) hsc g2)
  rw [← dens_ren] at hcall
  refine (gs_closed P b up fo R).call h1 h2 hdf (g1 _ (hc.ent _ _)) hcall ?_
  rintro e w' ⟨y, E', hy, hee, rfl, hm', hno, hr⟩
  refine ⟨_, rfl, hk y hy hXC _ _ w' (callM_models hM hXC o.dst σ (allLt_ok hlt) hob hm' hhas hee hno hr).1 (gd_put hgd hfd _)⟩
/-- So in a region that draws: the objects of the call are among those that the region writes to. -/
theorem d1_callM (C : Ctx P T) {i : Nat} {o : Oper} {g : Nat} {args args' : List SV} {d : Option Tmp} {no : Nat} {Y : Type} {res : Y → SV} {ob' : Y → List (Nat × Ob)} {no' : Y → Nat} {post : Y → Prop} (σ : Nat → Nat) (hc : MutC P g args ob no Y res ob' no' post)
    (ho : ops[i]? = some o) (hmw : mayWi ops i = true) (hs : Region.noSelect ops = true) (hg : guardR ops gd st o = .yes) (he : only1 T false false W gd st o = .call g args' d) (hargs : args' = rens σ args) (hlt : allLt σ no st.no = true) (hsc : scps no args = true) (hob : subOb σ no ob st.ob) (hnd : nodupB σ ob = true)
    (hW : (ob.all fun x => W.contains (σ x.1)) = true) (hWn : (W.all fun i => decide (i < st.no)) = true) (hcov : ∀ y, post y → (W.all fun j => kindEq2 (nth st.ob j) (nth (merge σ no st.no ob (ob' y) st.ob) j)) = true)
    (hk : ∀ y, post y → DQ P XC X0 w0 b up fo R ops false W k false p gd (st.callM d σ no (no' y) ob (ob' y) (res y))) : (∀ b, XC b → b < w0.heap.size ∧ ¬ X0 b) → D1 P XC X0 w0 ops false W (GS P b up fo R) k false i p gd st := by
  subst hargs
  intro hXC Wr n listed E a w hp hM hgd hWm
  have hw := guardR_yes hg hgd
  have hx := exec_ok C.tab C.eq hM o
  unfold only1 at he
  split at he
  · rename_i hfd
    cases hex : exec T st o with
    | call f' args' =>
      rw [hex] at he hx
      simp only [Bool.false_and, Bool.and_false, Bool.false_eq_true, if_false, E1.call.injEq] at he
      obtain ⟨rfl, rfl, rfl⟩ := he
      obtain ⟨g1, g2⟩ := hx
      unfold opG
      simp only [ho]
      have hdf : ∀ c, o.op ≠ .defer c := fun c hc' => by rw [exec_defer hc'] at hex; cases hex
      refine .inr ⟨hw, hdf, .inr ⟨f', _, g1 _ (hc.ent _ _), ?_⟩⟩
      obtain ⟨m, hhas, hexx⟩ := hM.mem.loc σ hob hnd
      have hcall := hc.calls _ (E.ren σ) w m (fun b hb => ⟨hM.exlt (fun b h => (hXC b h).1) b hb.1, hb.2⟩) (ok_args (fun b h => (hexx b).1 h) hsc g2)
      rw [← dens_ren] at hcall
      refine hcall.mono ?_
      rintro e w' ⟨y, E', hy, hee, rfl, hm', hno, hr⟩
      obtain ⟨hM', heq⟩ := callM_models hM hXC o.dst σ (allLt_ok hlt) hob hm' hhas hee hno hr
      have inW : ∀ b, Has (E.ren σ) ob b → Wr b := fun b ⟨i, o1, h1, h2⟩ => by
        obtain ⟨s1, s2⟩ := subOb_nth hob h1
        cases hn : nth st.ob (σ i) with
        | none => rw [hn] at s1; cases o1 <;> exact s1.elim
        | some o2 =>
          rw [hn] at s1
          exact hWm.of (σ i) o2 b (List.all_eq_true.1 hW (i, o1) (nth_mem h1)) hn (obSub_blk s1 h2)
      refine ⟨_, rfl, RWo.of ⟨hm'.fr.os, hm'.fr.tape, hm'.fr.output, hm'.fr.size, fun b hb hX => hm'.fr.block b hb fun h => hX (inW b h)⟩ hmw, hk y hy hXC hs Wr n _ _ _ w' hp hM' (gd_put hgd hfd _) ⟨fun j o' b hj hn hb => ?_, (fun h => by cases h), fun h => by cases h⟩⟩
      have hobs : (st.callM o.dst σ no (no' y) ob (ob' y) (res y)).ob = merge σ no st.no ob (ob' y) st.ob := by unfold St.callM; cases o.dst <;> rfl
      rw [hobs] at hn
      have hk2 := List.all_eq_true.1 (hcov y hy) j (by simpa using hj)
      have hjn : j < st.no := by have := List.all_eq_true.1 hWn j (by simpa using hj); simpa using this
      rw [hn] at hk2
      have hjj := heq j hjn
      cases o' with
      | gone => simp [blk] at hb
      | cells cs t =>
        cases h1 : nth st.ob j with
        | none => rw [h1] at hk2; simp [kindEq2] at hk2
        | some o => rw [h1] at hk2; cases o <;> simp [kindEq2] at hk2; exact hWm.of j _ b hj h1 (by rw [← hb]; simp [blk, hjj.1])
      | row e k n el =>
        cases h1 : nth st.ob j with
        | none => rw [h1] at hk2; simp [kindEq2] at hk2
        | some o => rw [h1] at hk2; cases o <;> simp [kindEq2] at hk2; exact hWm.of j _ b hj h1 (by rw [← hb]; simp [blk, hjj.2.1])
      | mp kk es =>
        cases h1 : nth st.ob j with
        | none => rw [h1] at hk2; simp [kindEq2] at hk2
        | some o => rw [h1] at hk2; cases o <;> simp [kindEq2] at hk2; exact hWm.of j _ b hj h1 (by rw [← hb]; simp [blk, hjj.1])
      | mark | lp =>
        cases h1 : nth st.ob j with
        | none => rw [h1] at hk2; simp [kindEq2] at hk2
        | some o => rw [h1] at hk2; cases o <;> simp [kindEq2] at hk2
    | ok s1 => rw [hex] at he; simp only at he; by_cases hq : stepB false false W st s1 o = true <;> simp [hq] at he
    | need q s1 => rw [hex] at he; simp only at he; by_cases hq : stepB false false W st s1 o = true <;> simp [hq] at he
    | yield | no => rw [hex] at he; cases he
  · cases he

/-! to prove one -/
/-- a frame that is never come back to: it keeps the names of the objects that a function was given -/
def gtm : Nat → List (Nat × SV)
  | 0 => []
  | n + 1 => (3 * n, .p n 0) :: (3 * n + 1, .own n) :: (3 * n + 2, .x n) :: gtm n
def ghost (ga : Act) (n : Nat) : Sus := ⟨ga, gtm n, 3 * n, []⟩
structure Gh (ga : Act) (n : Nat) (E : Env) : Prop where
  size : ga.tmps.size = 3 * n
  defers : ga.defers = []
  at_ : ∀ t u, look (gtm n) t = some u → ga.tmps[t]? = some (den E u)
theorem gtm_look : ∀ (n i : Nat), i < n → look (gtm n) (3 * i) = some (.p i 0) ∧ look (gtm n) (3 * i + 1) = some (.own i) ∧ look (gtm n) (3 * i + 2) = some (.x i)
  | 0, i, h => by omega
  | n + 1, i, h => by
    by_cases hi : i = n
    · subst hi
      refine ⟨by simp [gtm, look], ?_, ?_⟩
      · simp only [gtm, look]
        rw [if_neg (by omega)]; simp
      · simp only [gtm, look]
        rw [if_neg (by omega), if_neg (by omega)]; simp
    · obtain ⟨h1, h2, h3⟩ := gtm_look n i (by omega)
      refine ⟨?_, ?_, ?_⟩ <;> simp only [gtm, look] <;> rw [if_neg (by omega), if_neg (by omega), if_neg (by omega)] <;> assumption
theorem gtm_of : ∀ {n t : Nat} {u : SV}, look (gtm n) t = some u → t < 3 * n ∧ ∃ i, i < n ∧ (u = .p i 0 ∨ u = .own i ∨ u = .x i)
  | 0, t, u, h => by simp [gtm, look] at h
  | n + 1, t, u, h => by
    simp only [gtm, look] at h
    split at h
    · simp at h; exact ⟨by omega, n, by omega, .inl h.symm⟩
    · split at h
      · simp at h; exact ⟨by omega, n, by omega, .inr (.inl h.symm)⟩
      · split at h
        · simp at h; exact ⟨by omega, n, by omega, .inr (.inr h.symm)⟩
        · obtain ⟨h1, i, h2, h3⟩ := gtm_of h
          exact ⟨by omega, i, by omega, h3⟩
theorem gh_frok {ga : Act} {n : Nat} {E : Env} {X : Nat → Prop} {w : World} (h : Gh ga n E) : FrOk E w n X (ghost ga n) :=
  ⟨h.size, by rw [show (ghost ga n).a.defers = ga.defers from rfl, h.defers]; rfl, by simp [ghost], fun t u hu _ => h.at_ t u hu, fun t u hu => by
    obtain ⟨_, i, hi, rfl | rfl | rfl⟩ := gtm_of hu
    · exact .p _ hi
    · exact .own hi
    · exact .x hi⟩
theorem gh_env {ga : Act} {n N : Nat} {E E' : Env} {X : Nat → Prop} {w : World} (h : Gh ga n E) (h' : FrOk E' w N X (ghost ga n)) : EnvEq n E E' := fun i hi => by
  obtain ⟨h1, h2, h3⟩ := gtm_look n i hi
  have q1 := (h.at_ _ _ h1).symm.trans (h'.tm _ _ h1 (by show _ < 3 * n; omega))
  have q2 := (h.at_ _ _ h2).symm.trans (h'.tm _ _ h2 (by show _ < 3 * n; omega))
  have q3 := (h.at_ _ _ h3).symm.trans (h'.tm _ _ h3 (by show _ < 3 * n; omega))
  simp only [den, Option.some.injEq] at q1 q2 q3
  refine ⟨?_, q2, q3⟩
  have := congrArg (fun v => match v with | .pointer (some ad) => ad.block | _ => 0) q1
  exact this
def mkGh : Nat → Env → List Value
  | 0, _ => []
  | n + 1, E => mkGh n E ++ [den E (.p n 0), den E (.own n), den E (.x n)]
theorem mkGh_len (E : Env) : ∀ n, (mkGh n E).length = 3 * n
  | 0 => rfl
  | n + 1 => by simp [mkGh, mkGh_len E n]; omega
theorem mkGh_at (E : Env) : ∀ (n t : Nat) (u : SV), look (gtm n) t = some u → (mkGh n E)[t]? = some (den E u)
  | 0, t, u, h => by simp [gtm, look] at h
  | n + 1, t, u, h => by
    have hl := mkGh_len E n
    simp only [gtm, look] at h
    simp only [mkGh]
    split at h
    · rename_i e; subst e; simp at h; subst h
      rw [List.getElem?_append_right (by omega), hl]; simp
    · split at h
      · rename_i e; subst e; simp at h; subst h
        rw [List.getElem?_append_right (by omega), hl]; simp
      · split at h
        · rename_i e; subst e; simp at h; subst h
          rw [List.getElem?_append_right (by omega), hl]; simp
        · have := (gtm_of h).1
          rw [List.getElem?_append_left (by omega)]
          exact mkGh_at E n t u h
/-- what is to be shown of such a function's end -/
def RM {Y : Type} (res : Y → SV) (ob' : Y → List (Nat × Ob)) (no' : Y → Nat) (post : Y → Prop) (XC X0 : Nat → Prop) (w0 : World) (Ei : Env) (no : Nat) (e : Ending) (w' : World) : Prop :=
  ∃ y E', post y ∧ EnvEq no Ei E' ∧ e = .returned (den E' (res y)) ∧ Mem XC X0 w0 (ob' y) (no' y) E' w' ∧ no ≤ no' y ∧ Ok (no' y) (Ex XC E' (ob' y)) w' (res y)
theorem mutC_intro {f : Nat} {fn : Func} {c : Code} {args : List SV} {no : Nat} {Y : Type} {res : Y → SV} {ob' : Y → List (Nat × Ob)} {no' : Y → Nat} {post : Y → Prop} (hf : P.funcs[f]? = some fn) (hn : (fn.name == "runtime.NumGoroutine") = false) (hb : fn.body = some c) (hlen : args.length ≤ fn.ntmps)
    (h : ∀ XC X0 w0 Ei ga, Gh ga no Ei → QS P XC X0 w0 (frm f) [] f (RM res ob' no' post XC X0 w0 Ei no) [.code c] [] { tm := zipTm 0 args, ob := ob, nt := fn.ntmps, no := no, df := [], sus := [ghost ga no] }) : MutC P f args ob no Y res ob' no' post := by
  refine ⟨ent_of hf hn hb, fun XC E w hm hXC hok => ?_⟩
  have hgh : Gh { tmps := (mkGh no E).toArray, defers := [] } no E := ⟨by simp [mkGh_len], rfl, fun t u hu => by simpa using mkGh_at E no t u hu⟩
  have hM : Models XC (Has E ob) w { tm := zipTm 0 args, ob := ob, nt := fn.ntmps, no := no, df := [], sus := [ghost { tmps := (mkGh no E).toArray, defers := [] } no] } E { tmps := (dens E args).toArray ++ Array.replicate (fn.ntmps - args.length) undef, defers := [] } w :=
    ⟨hm, enter_cur hlen hok, fun s hs => by simp only [List.mem_singleton] at hs; subst hs; exact gh_frok hgh⟩
  have hg := h XC (Has E ob) w E _ hgh hXC E _ w hM (fun t b h => by simp [lookb] at h)
  intro cs
  obtain ⟨e, w', fr, h1, h2, h3, h4⟩ := hg cs
  refine ⟨e, w', fr, h1, ?_, h3, h4⟩
  rw [enter_frm hf hb]
  exact h2
theorem p_retM {f no : Nat} {Y : Type} {res : Y → SV} {ob' : Y → List (Nat × Ob)} {no' : Y → Nat} {post : Y → Prop} {Ei : Env} {ga : Act} {n : Nat} (C : Ctx P T) (hgh : Gh ga no Ei) {fn : Func} {l : List SV} {ob'' : List (Nat × Ob)} (hf : P.funcs[f]? = some fn) (h : run T n todo gd st = .at_ t gd' st') (hend : isEnd t = true) (hs : shut st'.df st'.ob = some ob'')
    (hr : retS T { st' with ob := ob'', df := [] } fn.results.toList = some l) (hsus : st'.sus = [ghost ga no]) (y : Y) (hy : post y) (hno : no ≤ no' y) (he : retV l = res y) (hob : ob'' = ob' y) (hnn : st'.no = no' y) :
    QS P XC X0 w0 (frm f) [] f (RM res ob' no' post XC X0 w0 Ei no) todo gd st := by
  refine p_at C h fun hXC => ?_
  intro E a w hM hgd cs
  obtain ⟨w', fr, h1, h2, h3, h4, h5⟩ := leave_ok C.tab hM (b := frm f) hf rfl rfl hend hs hr cs
  refine ⟨.returned (den E (retV l)), w', fr, ?_, h1, h2, h3⟩
  have hg := h4.sus (ghost ga no) (by show _ ∈ st'.sus; rw [hsus]; simp)
  subst hob
  have hm := h4.mem
  rw [he]
  refine ⟨y, E, hy, gh_env hgh hg, rfl, by rw [← hnn]; exact hm, hno, ?_⟩
  rw [← he, ← hnn]
  exact retV_ok h5
/-- the kept names stay in a weakening that leaves them -/
theorem sus_ghost {σ : Nat → Nat} {ga : Act} {no n : Nat} (h : ∀ i, i < no → σ i = i) (hn : no ≤ n) : subSus σ n [ghost ga no] [ghost ga no] := by
  refine ⟨⟨rfl, rfl, rfl, rfl, ?_⟩, trivial⟩
  have key : ∀ m, m ≤ no → ∀ l : List (Nat × SV), (∀ i, i < m → look l (3 * i) = some (.p i 0) ∧ look l (3 * i + 1) = some (.own i) ∧ look l (3 * i + 2) = some (.x i)) → subTm σ n (gtm m) l := by
    intro m
    induction m with
    | zero => intro _ l _; trivial
    | succ m ih =>
      intro hm l hl
      obtain ⟨h1, h2, h3⟩ := hl m (by omega)
      have hs := h m (by omega)
      refine ⟨by simp only [ren, hs]; exact h1, by simp [scp]; omega, by simp only [ren, hs]; exact h2, by simp [scp]; omega, by simp only [ren, hs]; exact h3, by simp [scp]; omega, ih (by omega) l fun i hi => hl i (by omega)⟩
  exact key no (Nat.le_refl _) _ fun i hi => gtm_look no i hi
end
end Go.SE
set_option linter.unusedVariables false
set_option linter.unusedSimpArgs false
namespace Go.SE
open Go.RowKit Go.Lib Go.Extern Go.Extern.Rtype
section
variable {P : Program} {T : List (Nat × TI)} {XC X0 : Nat → Prop} {w0 : World} {b : Frame} {st : St} {E : Env} {a : Act} {w : World}
variable {up : List Frame} {fo : Nat} {R : Ending → World → Prop} {gd : List (Nat × Bool)} {ops : Array Oper}

theorem upd_upd (ob : List (Nat × Ob)) (r : Nat) (x y : Ob) : upd (upd ob r x) r y = upd ob r y := by
  induction ob with
  | nil => rfl
  | cons p q ih =>
    obtain ⟨k, o⟩ := p
    simp only [upd]
    split
    · rename_i h; simp [upd, h]
    · rename_i h; simp [upd, h, ih]
/-- Writing one element whole. -/
theorem row_store (hT : TabOk P T) (hM : Models XC X0 w0 st E a w) {r e k n : Nat} {el : Nat → List SV} (hn : nth st.ob r = some (.row e k n el)) {ei : TI} (hei : ty T e = some ei) (hk : ei.size = k) {ix : Nat} (hix : ix < n) {g : Nat} (hg : rowBlk (E.val r) = some g)
    {cs : List SV} (hl : cs.length = k) (h1 : ∀ u ∈ cs, one u = true ∧ pure u = true) (hok : ∀ u ∈ cs, Ok st.no (Ex XC E st.ob) w u) :
    ∃ w', (storeVar e ⟨g, ix * k, none⟩ (.agg (dens E0 cs).toArray)).run P w = .ok () w' ∧ Models XC X0 w0 { st with ob := upd st.ob r (.row e k n (setEl ix cs el)) } E a w' ∧ ∀ u, Ok st.no (Ex XC E st.ob) w u → Ok st.no (Ex XC E (upd st.ob r (.row e k n (setEl ix cs el)))) w' u := by
  have hob := hM.mem.ob r _ hn
  have hoko := hM.mem.oko r _ hn
  obtain ⟨cur, hcur, hfit, hrow⟩ := hob.1.write (fun j hj => (hob.2.1 j hj).1) hix (off := 0) (cs := cs) (by omega) hg
  have hsp : splice (el ix) 0 cs = cs := by
    have := (hob.2.1 ix hix).1
    simp only [splice, List.take_zero, List.nil_append, Nat.zero_add]
    rw [List.drop_eq_nil_of_le (by omega)]; simp
  rw [hsp] at hrow
  have l1 : (dens E0 cs).length = k := by rw [dens_map]; simpa using hl
  have hst := run_storeCells_at (P := P) g (ix * k) e (dens E0 cs) 0 cur w hcur (by rw [l1]; omega) (fun v hv => by
    rw [dens_map] at hv
    obtain ⟨y, hy, rfl⟩ := List.mem_map.1 hv
    have := one_den hM (h1 y hy).1
    rw [den_pure E y (h1 y hy).2] at this
    exact this)
  simp only [Nat.add_zero] at hst hrow
  obtain ⟨m, mv⟩ := hM.mem.set (o' := .row e k n (setEl ix cs el)) hn (fun b h => h) (w' := w.setRow g _) (by show World.grownBy _ _ (rowBlk (E.val r)); rw [hg]; exact setRow_grown w g _) ⟨hrow, fun j hj => by
      simp only [setEl]
      split
      · exact ⟨hl, h1⟩
      · exact hob.2.1 j hj, hob.2.2⟩ (fun j hj y hy => by
      simp only [setEl] at hy
      split at hy
      · exact hok y hy
      · exact hoko j hj y hy)
  refine ⟨_, ?_, hM.trans m (Nat.le_refl _) (EnvEq.refl _ _) mv, mv⟩
  have hs : (sizeOf e).run P w = .ok k w := by rw [← hk]; exact (hT e ei (ty_mem hei)).size_run w
  have hc : (Value.agg (dens E0 cs).toArray).cells.size = k := by show (dens E0 cs).toArray.size = k; simpa using l1
  simp only [storeVar, Sem.run_bind, hs, Result.andThen]
  rw [if_neg (by simp [hc])]
  exact hst
theorem swap_run (hT : TabOk P T) (hM : Models XC X0 w0 st E a w) {r e k n : Nat} {el : Nat → List SV} (hn : nth st.ob r = some (.row e k n el)) {ei : TI} (hei : ty T e = some ei) (hk : ei.size = k) (hagg : ei.agg = true) {i j : Nat} (hi : i < n) (hj : j < n) :
    ∃ w', (ReflectliteSwapper.swap false #[.int .i64 i, .int .i64 j, E.val r, typeHandle P e]).run P w = .ok (.tuple #[]) w' ∧ Models XC X0 w0 { st with ob := upd st.ob r (.row e k n (setEl j (el i) (setEl i (el j) el))) } E a w' := by
  have hob := hM.mem.ob r _ hn
  have hoko := hM.mem.oko r _ hn
  obtain ⟨g, hg, ri⟩ := hob.1.read hob.2.1 hi
  obtain ⟨g2, hg2, rj⟩ := hob.1.read hob.2.1 hj
  rw [hg] at hg2
  simp only [Option.some.injEq] at hg2
  subst hg2
  have ld : ∀ ix, ix < n → (∀ q u, (el ix)[q]? = some u → w.cell? ⟨g, ix * k + q, none⟩ = some (den0 u)) → (loadVar e ⟨g, ix * k, none⟩).run P w = .ok (.agg (dens E0 (el ix)).toArray) w := fun ix hix hr => by
    have hl := (hob.2.1 ix hix).1
    have := load_cells (E := E0) (w := w) hT hei (ad := ⟨g, ix * k, none⟩) (l := el ix) (fun q u hu => by rw [add_lit]; exact hr q u hu) (u := .a ((el ix).take ei.size)) (by omega) (.inl ⟨hagg, rfl⟩)
    rw [List.take_of_length_le (by omega)] at this
    exact this
  obtain ⟨w1, s1, m1, mv1⟩ := row_store hT hM hn hei hk hi hg (cs := el j) (hob.2.1 j hj).1 (hob.2.1 j hj).2 (hoko j hj)
  have hn1 : nth (upd st.ob r (.row e k n (setEl i (el j) el))) r = some (.row e k n (setEl i (el j) el)) := by rw [nth_upd, if_pos rfl, hn]; rfl
  obtain ⟨w2, s2, m2, _⟩ := row_store hT m1 hn1 hei hk hj hg (cs := el i) (hob.2.1 i hi).1 (hob.2.1 i hi).2 (fun u hu => mv1 u (hoko i hi u hu))
  have huu : upd (upd st.ob r (.row e k n (setEl i (el j) el))) r (.row e k n (setEl j (el i) (setEl i (el j) el))) = upd st.ob r (.row e k n (setEl j (el i) (setEl i (el j) el))) := upd_upd _ _ _ _
  simp only [huu] at m2
  refine ⟨w2, ?_, m2⟩
  have hA : ∃ nn cc, E.val r = .slice (some ⟨g, 0, none⟩) nn cc ∧ nn = n := by
    rcases hob.1.2 with ⟨A, hv, h0⟩ | ⟨g', c, cur, hv, _⟩
    · omega
    · rw [hv] at hg
      simp only [rowBlk, Option.some.injEq] at hg
      subst hg
      exact ⟨_, _, hv, rfl⟩
  obtain ⟨nn, cc, hv, rfl⟩ := hA
  rw [hv, rl_swap]
  have i0 : ¬ ((i : Int) < 0) := by omega
  have i1 : ¬ ((i : Int) ≥ nn) := by omega
  have j0 : ¬ ((j : Int) < 0) := by omega
  have j1 : ¬ ((j : Int) ≥ nn) := by omega
  have hs : (sizeOf e).run P w = .ok k w := by rw [← hk]; exact (hT e ei (ty_mem hei)).size_run w
  simp [i0, i1, j0, j1, ofHandle, handleType, typeHandle, ReflectliteSwapper.exchange, hs, Addr.add_lit, ld i hi ri, ld j hj rj, s1, s2, Result.andThen]
/-- The function literal of reflectlite.Swapper. -/
theorem p_swap (C : Ctx P T) {g : Nat} (hext : ∀ (args : Array Value) (W : World), (callFunc g args).run P W = ((ReflectliteSwapper.swap false args).run P W).andThen fun v w' => .ok (.value v) w') (r i j : Nat) {e k n : Nat} {el : Nat → List SV} {ei : TI} (hei : ty T e = some ei) (hk : ei.size = k) (hagg : ei.agg = true)
    {q : Nat} {rest : List Nat} {kk : List Item} {o : Oper} (ho : headOp gd ops q = some o) {x y : Int} (he : exec T st o = .call g [.v (.int .i64 x), .v (.int .i64 y), .own r, .v (typeHandle P e)]) (hx : x = (i : Int)) (hy : y = (j : Int)) (hfd : freshd gd o.dst = true) (hn : nth st.ob r = some (.row e k n el)) (hi : i < n) (hj : j < n)
    (hkk : QS P XC X0 w0 b up fo R (.inRegion ops rest :: kk) gd (({ st with ob := upd st.ob r (.row e k n (setEl j (el i) (setEl i (el j) el))) } : St).put o.dst (.t []))) : QS P XC X0 w0 b up fo R (.inRegion ops (q :: rest) :: kk) gd st := by
  subst hx hy
  refine p_ext C ho he hfd (fun E a w hM _ => ?_) hkk
  obtain ⟨w', h1, h2⟩ := swap_run C.tab hM hn hei hk hagg hi hj
  refine ⟨.value (.tuple #[]), .tuple #[], E, w', ?_, .inl rfl, h2.put o.dst (.t (by simp)) rfl⟩
  rw [hext]
  have : (dens E [.v (.int .i64 i), .v (.int .i64 j), .own r, .v (typeHandle P e)]).toArray = #[.int .i64 i, .int .i64 j, E.val r, typeHandle P e] := rfl
  rw [this, h1]
  rfl
end
end Go.SE
set_option linter.unusedVariables false
set_option linter.unusedSimpArgs false
namespace Go.SE
open Go.RowKit Go.Lib Go.Extern Go.Extern.Rtype
section
variable {P : Program} {T : List (Nat × TI)} {XC X0 : Nat → Prop} {w0 : World} {b : Frame} {st : St} {E : Env} {a : Act} {w : World}
variable {up : List Frame} {fo : Nat} {R : Ending → World → Prop} {gd : List (Nat × Bool)} {ops : Array Oper}
/-- What a row's slice value is. -/
theorem row_val (hM : Models XC X0 w0 st E a w) {r e k n : Nat} {el : Nat → List SV} (hn : nth st.ob r = some (.row e k n el)) : ∃ p c, E.val r = .slice p n c := by
  rcases (hM.mem.ob r _ hn).1.2 with ⟨A, hv, h0⟩ | ⟨g, c, cur, hv, _⟩
  · exact ⟨A, 0, by rw [hv, h0]⟩
  · exact ⟨_, _, hv⟩
/-- internal/reflectlite.ValueOf at a row. -/
theorem p_valueOf (C : Ctx P T) {g : Nat} (hext : ∀ (args : Array Value) (W : World), (callFunc g args).run P W = ((ReflectliteValue.unpack (args.getD 0 (.tuple #[]))).run P W).andThen fun v w' => .ok (.value v) w') (r t e1 : Nat) {i : TypeInfo} (hi : P.info? t = some i) (hd : i.desc = .slice e1) {e k n : Nat} {el : Nat → List SV}
    {q : Nat} {rest : List Nat} {kk : List Item} {o : Oper} (ho : headOp gd ops q = some o) (he : exec T st o = .call g [.ifc t (.own r)]) (hfd : freshd gd o.dst = true) (hn : nth st.ob r = some (.row e k n el))
    (hkk : QS P XC X0 w0 b up fo R (.inRegion ops rest :: kk) gd (({ st with ob := (st.no, .cells [.own r] t) :: st.ob, no := st.no + 1 } : St).put o.dst (.a [.v (typeHandle P t), .p st.no 0, .v (.int .u64 151)]))) : QS P XC X0 w0 b up fo R (.inRegion ops (q :: rest) :: kk) gd st := by
  refine p_ext C ho he hfd (fun E a w hM _ => ?_) hkk
  obtain ⟨p, c, hv⟩ := row_val hM hn
  have hlt := hM.mem.no r _ hn
  have h1 := run_valueOf_slice (P := P) t e1 i hi hd p n c w
  have hM1 := hM.alloc (cs := [.own r]) t (by simp [one]) (by intro u hu; simp at hu; subst hu; exact .own hlt)
  have hde : dens E [SV.own r] = [.slice p n c] := by simp [dens, den, hv]
  rw [hde] at hM1
  refine ⟨.value (.agg #[typeHandle P t, .pointer (some ⟨w.heap.size, 0, none⟩), .int .u64 151]), .agg #[typeHandle P t, .pointer (some ⟨w.heap.size, 0, none⟩), .int .u64 151], E.setId st.no w.heap.size, w.alloc (.cells #[.slice p n c] t), ?_, .inl rfl, hM1.put o.dst (.a fun u hu => ?_) ?_⟩
  · rw [hext]
    have : (dens E [SV.ifc t (.own r)]).toArray.getD 0 (.tuple #[]) = .iface t (.slice p n c) := by simp [dens, den, hv]
    rw [this, h1]
    rfl
  · simp only [List.mem_cons, List.not_mem_nil, or_false] at hu
    rcases hu with rfl | rfl | rfl
    · exact .v _
    · exact .p 0 (Nat.lt_succ_self _)
    · exact .v _
  · simp [den, dens, Env.setId]
/-- internal/reflectlite.Swapper at a row of several cells an element. -/
theorem p_swapper (C : Ctx P T) {g : Nat} (hext : ∀ (args : Array Value) (W : World), (callFunc g args).run P W = ((ReflectliteSwapper.swapper "internal/reflectlite" (ReflectliteValue.valueError "Swapper") args).run P W).andThen fun v w' => .ok (.value v) w') (r t e1 : Nat) {i ie : TypeInfo} (hi : P.info? t = some i) (hd : i.desc = .slice e1) (hie : P.info? e1 = some ie) (ke : Nat) (hke : ∀ w, (kind e1).run P w = .ok ke w)
    {e k n : Nat} {el : Nat → List SV} (f : Nat) (hf : P.funcs.findIdx? (·.name == "internal/reflectlite" ++ ".Swapper$" ++ toString (swapperK n ie ke)) = some f)
    {q : Nat} {rest : List Nat} {kk : List Item} {o : Oper} (ho : headOp gd ops q = some o) (he : exec T st o = .call g [.ifc t (.own r)]) (hfd : freshd gd o.dst = true) (hn : nth st.ob r = some (.row e k n el))
    (hkk : QS P XC X0 w0 b up fo R (.inRegion ops rest :: kk) gd (st.put o.dst (.f (.func f) (if swapperK n ie ke ≤ 2 then [] else [.own r, .v (typeHandle P e1)])))) : QS P XC X0 w0 b up fo R (.inRegion ops (q :: rest) :: kk) gd st := by
  refine p_ext C ho he hfd (fun E a w hM _ => ?_) hkk
  obtain ⟨p, c, hv⟩ := row_val hM hn
  have hlt := hM.mem.no r _ hn
  have h1 := run_swapper_slice (P := P) t e1 i ie hi hd hie ke hke p n c f hf w
  refine ⟨.value (.func (.func f) #[] (if swapperK n ie ke ≤ 2 then #[] else #[.slice p n c, typeHandle P e1])), _, E, w, ?_, .inl rfl, hM.put o.dst (.f fun u hu => ?_) ?_⟩
  · rw [hext]
    have : (dens E [SV.ifc t (.own r)]).toArray = #[.iface t (.slice p n c)] := by simp [dens, den, hv]
    rw [this, h1]
    rfl
  · split at hu
    · simp at hu
    · simp only [List.mem_cons, List.not_mem_nil, or_false] at hu
      rcases hu with rfl | rfl
      · exact .own hlt
      · exact .v _
  · split <;> simp [den, dens, hv]
/-- (internal/reflectlite.Value).Len of it. -/
theorem p_valueLen (C : Ctx P T) {g : Nat} (hext : ∀ (args : Array Value) (W : World), (callFunc g args).run P W = ((ReflectliteValue.method (ReflectliteValue.valueError "reflectlite.Value.Len" 0) ReflectliteValue.len args).run P W).andThen fun v w' => .ok (.value v) w') (r x t e1 : Nat) {i : TypeInfo} (hi : P.info? t = some i) (hd : i.desc = .slice e1) (hpk : P.packed t = false) {e k n : Nat} {el : Nat → List SV}
    {q : Nat} {rest : List Nat} {kk : List Item} {o : Oper} (ho : headOp gd ops q = some o) (he : exec T st o = .call g [.a [.v (typeHandle P t), .p x 0, .v (.int .u64 151)]]) (hfd : freshd gd o.dst = true) (hn : nth st.ob r = some (.row e k n el)) (hx : nth st.ob x = some (.cells [.own r] t))
    (hkk : QS P XC X0 w0 b up fo R (.inRegion ops rest :: kk) gd (st.put o.dst (.v (.int .i64 n)))) : QS P XC X0 w0 b up fo R (.inRegion ops (q :: rest) :: kk) gd st := by
  refine p_ext C ho he hfd (fun E a w hM _ => ?_) hkk
  obtain ⟨p, c, hv⟩ := row_val hM hn
  have hcell : w.cell? ⟨E.id x, 0, none⟩ = some (.slice p n c) := by
    have := cells_at (off := 0) (hM.mem.ob x _ hx) 0 (.own r) rfl
    rw [show (⟨E.id x, 0, none⟩ : Addr).add 0 = ⟨E.id x, 0, none⟩ from rfl] at this
    rw [this]; simp [den, hv]
  have h1 := run_valueLen_slice (P := P) t e1 i hi hd hpk ⟨E.id x, 0, none⟩ p n c w hcell
  refine ⟨.value (.int .i64 n), _, E, w, ?_, .inl rfl, hM.put o.dst (.v _) rfl⟩
  rw [hext]
  have : (dens E [SV.a [.v (typeHandle P t), .p x 0, .v (.int .u64 151)]]).toArray = #[.agg #[typeHandle P t, .pointer (some ⟨E.id x, 0, none⟩), .int .u64 151]] := by simp [dens, den]
  rw [this, h1]
  rfl
end
end Go.SE
set_option linter.unusedVariables false
set_option linter.unusedSimpArgs false
namespace Go.SE
open Go.RowKit
section
variable {P : Program} {T : List (Nat × TI)} {XC X0 : Nat → Prop} {w0 : World} {b : Frame} {st : St} {E : Env} {a : Act} {w : World}
variable {up : List Frame} {fo : Nat} {R : Ending → World → Prop} {gd : List (Nat × Bool)} {ops : Array Oper} {z : Bool} {W : List Nat} {k : List Item} {p : Plan} {m : Bool} {todo : List Item}
/-- The same elements, told otherwise. -/
theorem Models.row_eq (hM : Models XC X0 w0 st E a w) {i e k n : Nat} {el el' : Nat → List SV} (hn : nth st.ob i = some (.row e k n el)) (he : ∀ j, j < n → el j = el' j) : Models XC X0 w0 { st with ob := upd st.ob i (.row e k n el') } E a w := by
  have hob := hM.mem.ob i _ hn
  have hoko := hM.mem.oko i _ hn
  obtain ⟨m, mv⟩ := hM.mem.set (o' := .row e k n el') hn (fun b h => h) (w' := w) ⟨rfl, rfl, rfl, Nat.le_refl _, fun _ _ _ => rfl⟩
    ⟨by rw [← flat_congr he]; exact hob.1, fun j hj => by rw [← he j hj]; exact hob.2.1 j hj, hob.2.2⟩ (fun j hj u hu => by rw [← he j hj] at hu; exact hoko j hj u hu)
  exact hM.trans m (Nat.le_refl _) (EnvEq.refl _ _) mv
theorem p_row (i : Nat) {e k n : Nat} {el : Nat → List SV} (el' : Nat → List SV) (hn : nth st.ob i = some (.row e k n el)) (he : ∀ j, j < n → el j = el' j) (hk : QS P XC X0 w0 b up fo R todo gd { st with ob := upd st.ob i (.row e k n el') }) : QS P XC X0 w0 b up fo R todo gd st :=
  fun hXC E a w hM hgd => hk hXC E a w (hM.row_eq hn he) hgd
theorem d_row (i : Nat) {e k1 n : Nat} {el : Nat → List SV} (el' : Nat → List SV) (hn : nth st.ob i = some (.row e k1 n el)) (he : ∀ j, j < n → el j = el' j) (hk : DQ P XC X0 w0 b up fo R ops z W k m p gd { st with ob := upd st.ob i (.row e k1 n el') }) : DQ P XC X0 w0 b up fo R ops z W k m p gd st := by
  intro hXC hs Wr n' listed E a w hp hM hgd hw
  have same : ∀ j o, nth (upd st.ob i (.row e k1 n el')) j = some o → ∃ o', nth st.ob j = some o' ∧ blk E j o' = blk E j o := fun j o h => by
    rw [nth_upd] at h
    split at h
    · rename_i e; subst e; rw [hn] at h; simp at h; subst h; exact ⟨_, hn, rfl⟩
    · exact ⟨o, h, rfl⟩
  have same2 : ∀ j o, nth st.ob j = some o → ∃ o', nth (upd st.ob i (.row e k1 n el')) j = some o' ∧ blk E j o' = blk E j o := fun j o h => by
    rw [nth_upd]
    split
    · rename_i e; subst e; rw [hn] at h; simp at h; subst h; exact ⟨.row e k1 n el', by rw [hn]; rfl, rfl⟩
    · exact ⟨o, h, rfl⟩
  refine hk hXC hs Wr n' listed E a w hp (hM.row_eq hn he) hgd ⟨fun j o b h1 h2 h3 => ?_, fun hm b hlb hb => ?_, hw.fr⟩
  · obtain ⟨o', g1, g2⟩ := same j o h2
    exact hw.of j o' b h1 g1 (by rw [g2]; exact h3)
  · obtain ⟨j, o, h1, h2, h3⟩ := hw.into hm b hlb hb
    obtain ⟨o', g1, g2⟩ := same2 j o h2
    exact ⟨j, o', h1, g1, by rw [g2]; exact h3⟩
/-- In a region that draws: a call over objects, that stands alone. -/
theorem d_callM (C : Ctx P T) {i : Nat} {o : Oper} {g : Nat} {args args' : List SV} {ob : List (Nat × Ob)} {d : Option Tmp} {no : Nat} {Y : Type} {res : Y → SV} {ob' : Y → List (Nat × Ob)} {no' : Y → Nat} {post : Y → Prop} (σ : Nat → Nat) (hc : MutC P g args ob no Y res ob' no' post)
    (ho : ops[i]? = some o) (hmw : mayWi ops i = true) (hg : guardR ops gd st o = .yes) (he : only1 T false false W gd st o = .call g args' d) (hargs : args' = rens σ args) (hlt : allLt σ no st.no = true) (hsc : scps no args = true) (hob : subOb σ no ob st.ob) (hnd : nodupB σ ob = true)
    (hW : (ob.all fun x => W.contains (σ x.1)) = true) (hWn : (W.all fun i => decide (i < st.no)) = true) (hcov : ∀ y, post y → (W.all fun j => kindEq2 (nth st.ob j) (nth (merge σ no st.no ob (ob' y) st.ob) j)) = true)
    (hk : ∀ y, post y → DQ P XC X0 w0 b up fo R ops false W k false p gd (st.callM d σ no (no' y) ob (ob' y) (res y))) : DQ P XC X0 w0 b up fo R ops false W k false (.o i p) gd st :=
  fun hXC hs => ds_of_d1 (d1_callM C σ hc ho hmw hs hg he hargs hlt hsc hob hnd hW hWn hcov hk hXC)
theorem d_callO (C : Ctx P T) {i : Nat} {o : Oper} {g : Nat} {args : List SV} {d : Option Tmp} {e k1 n' : Nat} {el : Nat → List SV} (ho : ops[i]? = some o) (hg : guardR ops gd st o = .yes) (hc : OwnC P g args e k1 n' el) (he : only1 T z m W gd st o = .call g args d) (hWn : (z || W.all fun i => decide (i < st.no)) = true)
    (hk : DQ P XC X0 w0 b up fo R ops z W k m p gd (st.row d e k1 n' el none)) : DQ P XC X0 w0 b up fo R ops z W k m (.o i p) gd st :=
  fun hXC hs => ds_of_d1 (d1_callO C ho hs hg hc he hWn hk hXC)
end
end Go.SE
