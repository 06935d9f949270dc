/- A walk by symbols over the given program, a part of it: lemmas alone; what is claimed stands in the last text. No conditions of its own. -/
import Derived.Test.YtneddobmlcbabaaWaA
import Derived.Laws.OwnMore
import Derived.Deep.Quiet
import Derived.RangeFuncIn
import Derived.RangeFuncRecord
import Derived.RangeFuncLeaves
import Derived.Below
import Derived.Laws.StructEq
set_option linter.unusedVariables false
set_option linter.unusedSimpArgs false
set_option linter.unusedVariables false
set_option linter.unusedSimpArgs false
namespace Go.SE
open Go.RowKit

section
variable {P : Program} {T : List (Nat × TI)} {XC X0 : Nat → Prop} {w0 : World} {st : St} {E : Env} {a : Act} {w : World}

theorem x_convert (hT : TabOk P T) (hM : Models XC X0 w0 st E a w) {o : Oper} {s d : TypeId} {x : Operand} (ho : o.op = .convert s d x) : XOk P XC X0 w0 st E a w o (exec T st o) := by
  simp only [exec, ho]
  split
  · rename_i k0 n si sz by_ k z eqs hx hs ht
    have e1 := (ev_ok hM hx).1
    obtain ⟨d1, h1, h2, h3⟩ := (hT _ _ (ty_mem ht)).under_run w
    have h2' : d1 = .int k := h2
    subst h2'
    obtain ⟨d2, h4, _, h6⟩ := (hT _ _ (ty_mem hs)).under_run w
    refine value_ok' hM (.v _) rfl ?_
    have : (convert s d (.int k0 n)).run P w = .ok (.int k (k.wrap n)) w := by
      simp only [convert, Sem.run_bind, h6, h3, Result.andThen]
      rfl
    simp [execOp, ho, e1, den, this, Result.andThen]
  · trivial

theorem field_off (hT : TabOk P T) {t : TypeId} {sz by_ : Nat} {fs : List (Nat × Nat)} {z : List Z} {eqs : Option (List IntKind)} (ht : ty T t = some { size := sz, bytes := by_, d := .struct fs, zero := z, eqs := eqs }) {i off ft : Nat} (hi : fs[i]? = some (off, ft)) (w : World) :
    ∃ f g, (underlying t).run P w = .ok (.struct f) w ∧ f[i]? = some g ∧ g.offset = off ∧ g.type = ft := by
  obtain ⟨d, hd, ⟨f, rfl, hf⟩, hr⟩ := (hT t _ (ty_mem ht)).under_run w
  have hf' : f.toList.map (fun x => (x.offset, x.type)) = fs := hf
  subst hf'
  rw [List.getElem?_map] at hi
  cases hff : f[i]? with
  | none => simp [hff] at hi
  | some g => simp [hff] at hi; exact ⟨f, g, hr, hff, hi.1, hi.2⟩

theorem x_fieldAddr (hT : TabOk P T) (hM : Models XC X0 w0 st E a w) {o : Oper} {t : TypeId} {x : Operand} {i : Nat} (ho : o.op = .fieldAddr t x i) : XOk P XC X0 w0 st E a w o (exec T st o) := by
  simp only [exec, ho]
  split
  · rename_i sz by_ fs z eqs ht
    split
    · rename_i off ft hi
      split
      · rename_i fi hfi
        split
        · trivial
        · rename_i hz
          obtain ⟨f, g, h1, h2, h3, h4⟩ := field_off hT ht hi w
          have hsz := (hT ft fi (ty_mem hfi)).size_run w
          rw [← h4] at hsz
          have run : ∀ ad : Addr, a.eval x = .pointer (some ad) → (execOp a.eval o).run P w = .ok (.value (.pointer (some (ad.add off)))) w := fun ad hx => by
            have hp : (fieldPlace ad g).run P w = .ok (ad.add off) w := by
              simp only [fieldPlace, Sem.run_bind, hsz, Result.andThen]
              rw [if_neg hz, h3]
              rfl
            simp [execOp, ho, hx, Instr.fieldAt, h1, h2, Instr.sureAddr, hp, Result.andThen]
          split
          · rename_i j o2 hx
            obtain ⟨e1, e2⟩ := ev_ok hM hx
            cases e2 with
            | p _ hj => exact value_ok' hM (.p _ hj) (by simp [den, add_lit]) (run _ e1)
          · rename_i ad l hx
            obtain ⟨e1, e2⟩ := ev_ok hM hx
            rw [force_eq]
            cases e2 with
            | e hs hX hc hp hk =>
              refine value_ok' hM (.e (by rw [add_block]; exact hs) (by rw [add_block]; exact hX) (fun j u hu => ?_) (fun u hu => hp u (List.mem_of_mem_drop hu)) (fun u hu => hk u (List.mem_of_mem_drop hu))) (by simp [den]) (run _ e1)
              rw [add_add]
              exact hc _ u (by rw [List.getElem?_drop] at hu; exact hu)
          · rename_i j ix k o2 hx
            obtain ⟨e1, e2⟩ := ev_ok hM hx
            cases e2 with
            | q _ _ _ hj => exact value_ok' hM (.q _ _ _ hj) (by simp [den, add_lit, Nat.add_assoc]) (run _ e1)
          · trivial
      · trivial
    · trivial
  · trivial

theorem part_run (hT : TabOk P T) {t : TypeId} {ti : TI} (ht : ty T t = some ti) {l : List SV} {off : Nat} {u : SV} (hm : ti.size ≤ (l.drop off).length)
    (hu : ti.agg = true ∧ u = .a ((l.drop off).take ti.size) ∨ ti.agg = false ∧ ti.size = 1 ∧ (l.drop off)[0]? = some u) : (part t (dens E l).toArray off).run P w = .ok (den E u) w := by
  have hti := hT t ti (ty_mem ht)
  unfold part
  simp only [Sem.run_bind, hti.agg_run w, Result.andThen]
  rcases hu with ⟨ha, rfl⟩ | ⟨ha, h1, h2⟩
  · simp only [ha, if_true, Sem.run_bind, hti.size_run w, Result.andThen, Sem.run_pure, den]
    congr 3
    apply Array.ext'
    simp only [Array.toList_extract, dens_map, List.map_take, List.map_drop]
    simp [List.extract_eq_take_drop]
  · simp only [ha]
    rw [List.getElem?_drop] at h2
    have : (dens E l).toArray[off]? = some (den E u) := by simp [dens_map]; exact ⟨u, by simpa using h2, rfl⟩
    simp [this]

theorem x_field (hT : TabOk P T) (hM : Models XC X0 w0 st E a w) {o : Oper} {t : TypeId} {x : Operand} {i : Nat} (ho : o.op = .field t x i) : XOk P XC X0 w0 st E a w o (exec T st o) := by
  simp only [exec, ho]
  split
  · rename_i sz by_ fs z eqs ht
    split
    · rename_i off ft hi
      split
      · rename_i fi l hfi hx
        obtain ⟨e1, e2⟩ := ev_ok hM hx
        cases e2 with
        | a hl =>
          refine pickC_ok (fun u hu => hl u (List.mem_of_mem_drop hu)) fun u hu hm hh => ?_
          obtain ⟨f, g, h1, h2, h3, h4⟩ := field_off hT ht hi w
          have hp := part_run (E := E) (w := w) hT hfi hm hh
          rw [← h4] at hp
          refine value_ok hM hu ?_
          simp [execOp, ho, e1, den, Instr.field, h1, h2, asAgg, h3, hp, Result.andThen]
      · trivial
    · trivial
  · trivial

theorem x_index (hT : TabOk P T) (hM : Models XC X0 w0 st E a w) {o : Oper} {t : TypeId} {x y : Operand} (ho : o.op = .index t x y) : XOk P XC X0 w0 st E a w o (exec T st o) := by
  simp only [exec, ho]
  split
  · rename_i sz by_ n e z eqs ht
    split
    · rename_i ei hei
      split
      · rename_i l k i hx hy
        obtain ⟨e1, e2⟩ := ev_ok hM hx
        have e3 := (ev_ok hM hy).1
        split
        · rename_i hb
          cases e2 with
          | a hl =>
            refine pickC_ok (fun u hu => hl u (List.mem_of_mem_drop hu)) fun u hu hm hh => ?_
            obtain ⟨d, hd, hf, hr⟩ := (hT t _ (ty_mem ht)).under_run w
            have hf' : d = .array n e := hf
            subst hf'
            have hp := part_run (E := E) (w := w) hT hei hm hh
            have hs := (hT e ei (ty_mem hei)).size_run w
            refine value_ok hM hu ?_
            simp only [execOp, ho, e1, e3, den, Instr.index, asIntOf, Sem.run_bind, Sem.run_pure, Result.andThen, hr]
            rw [if_pos hb]
            simp [hs, hp, Result.andThen]
        · trivial
      · trivial
    · trivial
  · trivial

theorem x_indexAddr (hT : TabOk P T) (hM : Models XC X0 w0 st E a w) {o : Oper} {t : TypeId} {x y : Operand} (ho : o.op = .indexAddr t x y) : XOk P XC X0 w0 st E a w o (exec T st o) := by
  simp only [exec, ho]
  split
  · rename_i sz by_ e z eqs ht
    split
    · rename_i ei hei
      split
      · rename_i A n c k el k' i hx hy
        obtain ⟨e1, e2⟩ := ev_ok hM hx
        have e3 := (ev_ok hM hy).1
        split
        · rename_i hk
          subst hk
          rw [force_eq]
          intro hb
          obtain ⟨d, hd, hf, hr⟩ := (hT t _ (ty_mem ht)).under_run w
          have hf' : d = .slice e := hf
          subst hf'
          have hs := (hT e ei (ty_mem hei)).size_run w
          cases e2 with
          | s hm hc h hp hk =>
            obtain ⟨ad, hA, hlt, hX, hl, hr2⟩ := h i.toNat (by omega)
            subst hA
            have hin : i.toNat < n := by omega
            refine value_ok' hM (.e (by rw [add_block]; exact hlt) (by rw [add_block]; exact hX) (fun j u hu => ?_) (hp _ hin) (hk _ hin)) rfl ?_
            · show w.cell? ((ad.add _).add j) = _
              rw [add_add]
              exact hr2 j u hu
            · simp only [execOp, ho, e1, e3, den, Instr.indexAt, asIntOf, Sem.run_bind, Sem.run_pure, Result.andThen, hr]
              rw [if_pos hb]
              simp [hs, Result.andThen]
        · trivial
      · rename_i j k' i hx hy
        obtain ⟨e1, e2⟩ := ev_ok hM hx
        have e3 := (ev_ok hM hy).1
        split
        · rename_i e' k n el hn
          split
          · rename_i hk
            subst hk
            intro hb
            obtain ⟨d, hd, hf, hr⟩ := (hT t _ (ty_mem ht)).under_run w
            have hf' : d = .slice e := hf
            subst hf'
            have hs := (hT e ei (ty_mem hei)).size_run w
            have hob := hM.mem.ob j _ hn
            rcases hob.1.2 with ⟨A, hA, h0⟩ | ⟨g, c, cur, hv, _⟩
            · omega
            · cases e2 with
              | own hj =>
                refine value_ok' hM (.q _ _ _ hj) (v := .pointer (some ⟨g, i.toNat * ei.size, none⟩)) (by simp [den, hv, rowBlk]) ?_
                simp only [execOp, ho, e1, e3, den, hv, Instr.indexAt, asIntOf, Sem.run_bind, Sem.run_pure, Result.andThen, hr]
                rw [if_pos hb]
                simp [hs, Result.andThen, add_lit]
          · trivial
        · trivial
      · trivial
    · trivial
  · rename_i sz by_ n e z eqs ht
    split
    · rename_i ei hei
      split
      · rename_i j off k' i hx hy
        obtain ⟨e1, e2⟩ := ev_ok hM hx
        have e3 := (ev_ok hM hy).1
        split
        · rename_i hb
          obtain ⟨d, hd, hf, hr⟩ := (hT t _ (ty_mem ht)).under_run w
          have hf' : d = .array n e := hf
          subst hf'
          have hs := (hT e ei (ty_mem hei)).size_run w
          cases e2 with
          | p _ hj =>
            refine value_ok' hM (.p _ hj) (v := .pointer (some ⟨E.id j, off + i.toNat * ei.size, none⟩)) rfl ?_
            simp only [execOp, ho, e1, e3, den, Instr.indexAt, asIntOf, Sem.run_bind, Sem.run_pure, Result.andThen, hr, Instr.sureAddr]
            rw [if_pos hb]
            simp [hs, Result.andThen, add_lit]
        · trivial
      · trivial
    · trivial
  · trivial
end
end Go.SE
set_option linter.unusedVariables false
set_option linter.unusedSimpArgs false
namespace Go.SE
open Go.RowKit

section
variable {P : Program} {T : List (Nat × TI)} {XC X0 : Nat → Prop} {w0 : World} {st : St} {E : Env} {a : Act} {w : World}

theorem x_slice (hT : TabOk P T) (hM : Models XC X0 w0 st E a w) {o : Oper} {t : TypeId} {x : Operand} {lo hi mx : Option Operand} (ho : o.op = .slice t x lo hi mx) : XOk P XC X0 w0 st E a w o (exec T st o) := by
  cases mx with
  | some m => simp only [exec, ho]; trivial
  | none =>
  simp only [exec, ho]
  split
  · rename_i sz by_ e z eqs ht
    split
    · rename_i ei hei
      split
      · rename_i A n c k el hx
        obtain ⟨e1, e2⟩ := ev_ok hM hx
        split
        · rename_i hk
          subst hk
          split
          · rename_i l h hl hh
            intro hb
            obtain ⟨d, hd, hf, hr⟩ := (hT t _ (ty_mem ht)).under_run w
            have hf' : d = .slice e := hf
            subst hf'
            have hs := (hT e ei (ty_mem hei)).size_run w
            have lov : ∃ L : Option Value, lo.map a.eval = L ∧ ((∃ k', L = some (.int k' l)) ∨ (L = none ∧ l = 0)) := by
              cases lo with
              | none => exact ⟨none, rfl, .inr ⟨rfl, by simpa using hl.symm⟩⟩
              | some y =>
                simp only at hl
                split at hl
                · rename_i k' i hy
                  simp at hl; subst hl
                  exact ⟨_, rfl, .inl ⟨k', by rw [Option.map_some, (ev_ok hM hy).1]; rfl⟩⟩
                · simp at hl
            have hiv : ∃ H : Option Value, hi.map a.eval = H ∧ ((∃ k', H = some (.int k' h)) ∨ (H = none ∧ h = n)) := by
              cases hi with
              | none => exact ⟨none, rfl, .inr ⟨rfl, by simpa using hh.symm⟩⟩
              | some y =>
                simp only at hh
                split at hh
                · rename_i k' i hy
                  simp at hh; subst hh
                  exact ⟨_, rfl, .inl ⟨k', by rw [Option.map_some, (ev_ok hM hy).1]; rfl⟩⟩
                · simp at hh
            obtain ⟨L, hL, hL2⟩ := lov
            obtain ⟨H, hH, hH2⟩ := hiv
            cases e2 with
            | s hm hc hq hp hk =>
              refine value_ok' hM (.s (by omega) (by omega) (fun i hi' => ?_) (fun i hi' => hp _ (by omega)) (fun i hi' => hk _ (by omega))) rfl ?_
              · obtain ⟨ad, hA, hlt, hX, hlen, hr2⟩ := hq (l.toNat + i) (by omega)
                subst hA
                refine ⟨ad.add (l.toNat * ei.size), by rw [if_neg (by omega)]; rfl, by rw [add_block]; exact hlt, by rw [add_block]; exact hX, hlen, fun j u hu => ?_⟩
                rw [add_add, ← Nat.add_assoc, ← Nat.add_mul]
                exact hr2 j u hu
              · have sb : ∀ (k' : IntKind) (i : Int) (y : Nat) code, 0 ≤ i → i ≤ y → (Instr.sliceBound (.int k' i) y code).run P w = .ok i.toNat w := fun k' i y code h1 h2 => by
                  simp only [Instr.sliceBound, asIntOf, Sem.run_bind, Sem.run_pure, Result.andThen]
                  rw [if_pos ⟨h1, h2⟩]; rfl
                have hbnd : (Instr.sliceBounds true n c L H none).run P w = .ok (l.toNat, h.toNat, c) w := by
                  unfold Instr.sliceBounds
                  rcases hH2 with ⟨k2, rfl⟩ | ⟨rfl, rfl⟩ <;> rcases hL2 with ⟨k1, rfl⟩ | ⟨rfl, rfl⟩ <;> simp only [Sem.run_bind, Sem.run_pure, Result.andThen]
                  · rw [sb _ _ _ _ (by omega) (by omega)]; simp only []; rw [sb _ _ _ _ (by omega) (by omega)]
                  · rw [sb _ _ _ _ (by omega) (by omega)]; rfl
                  · rw [sb _ _ _ _ (by omega) (by omega)]; simp
                  · simp
                simp only [execOp, ho, e1, den, Instr.sliceAt, Sem.run_bind, hr, Result.andThen, Instr.slice, hL, hH, Option.map_none, hbnd, hs, Sem.run_pure]
          · trivial
        · trivial
      · trivial
    · trivial
  · trivial

/-! new rows -/
theorem flat_rowEl {k n : Nat} {L : List SV} (h : L.length = n * k) : flat n (rowEl k L) = L := by
  induction n generalizing L with
  | zero => simp at h; subst h; rfl
  | succ n ih =>
    have h1 : (L.take (n * k)).length = n * k := by rw [List.length_take, h, Nat.succ_mul]; omega
    have h2 := ih h1
    have h3 : flat n (rowEl k L) = flat n (rowEl k (L.take (n * k))) := flat_congr fun j hj => by
      simp only [rowEl]
      have hjk : j * k + k ≤ n * k := by
        calc j * k + k = (j + 1) * k := by rw [Nat.succ_mul]
          _ ≤ n * k := Nat.mul_le_mul_right _ hj
      rw [List.drop_take, List.take_take, Nat.min_eq_left (by omega)]
    rw [flat_succ, h3, h2]
    conv => rhs; rw [← List.take_append_drop (n * k) L]
    congr 1
    simp only [rowEl]
    apply List.take_of_length_le
    rw [List.length_drop, h, Nat.succ_mul]; omega
theorem rowEl_length {k n : Nat} {L : List SV} (h : L.length = n * k) {j : Nat} (hj : j < n) : (rowEl k L j).length = k := by
  have hjk : j * k + k ≤ n * k := by
    calc j * k + k = (j + 1) * k := by rw [Nat.succ_mul]
      _ ≤ n * k := Nat.mul_le_mul_right _ hj
  simp only [rowEl, List.length_take, List.length_drop, h]; omega
theorem rowEl_mem {k : Nat} {L : List SV} {j : Nat} {u : SV} (h : u ∈ rowEl k L j) : u ∈ L := List.mem_of_mem_drop (List.mem_of_mem_take h)
theorem zeros_flat (zs : List Value) (k n : Nat) (hz : zs.length = k) (hk : 0 < k) : ((Array.range (n * k)).map fun i => zs.toArray[i % k]!).toList = (List.range n).flatMap fun _ => zs := by
  rw [Array.toList_map, Array.toList_range]
  induction n with
  | zero => simp
  | succ n ih =>
    rw [Nat.succ_mul, List.range_add, List.map_append, ih, List.range_succ, List.flatMap_append]
    congr 1
    simp only [List.map_map, List.flatMap_cons, List.flatMap_nil, List.append_nil]
    apply List.ext_getElem
    · simp [hz]
    · intro i h1 h2
      simp at h1
      have : (n * k + i) % k = i := by rw [Nat.mul_comm, Nat.mul_add_mod]; exact Nat.mod_eq_of_lt h1
      simp [this]
      rw [List.getElem?_eq_getElem (by omega)]
      rfl

theorem x_buildSlice (hT : TabOk P T) (hM : Models XC X0 w0 st E a w) {o : Oper} {t : TypeId} {n : Nat} {parts : Array (Nat × Operand)} (ho : o.op = .buildSlice t n parts) : XOk P XC X0 w0 st E a w o (exec T st o) := by
  simp only [exec, ho]
  split
  · rename_i sz by_ e zz eqs ht
    split
    · rename_i ei hei
      split
      · rename_i hc
        obtain ⟨hk, hn, hk2⟩ := hc
        have hzl := (hT e ei (ty_mem hei)).zl
        rw [force_eq]
        have hti := hT e ei (ty_mem hei)
        obtain ⟨z, hz, hzc⟩ := hti.zero_run w
        have hs := hti.size_run w
        obtain ⟨d, hd, hf, hr⟩ := (hT t _ (ty_mem ht)).under_run w
        have hf' : d = .slice e := hf
        subst hf'
        have hzz := zeros_ok st.no (Ex XC E st.ob) w ei.zero
        refine fill_ok hT hM (.arr n e) (fun i => some (i * ei.size, ei.size)) (fun i off size hp => by
            simp only [places, hei, Option.some.injEq, Prod.mk.injEq] at hp
            rw [hp.1, hp.2]) _ _ (fun u hu => by obtain ⟨_, _, hu⟩ := List.mem_flatMap.1 hu; exact (hzz u hu).2) (fun u hu => by obtain ⟨_, _, hu⟩ := List.mem_flatMap.1 hu; exact (hzz u hu).1) (fun cs' q1 q2 q3 q4 => ?_)
        split
        · rename_i hp
          have hlen : cs'.length = n * ei.size := by
            rw [q3]
            have : ∀ m, ((List.range m).flatMap fun _ => ei.zero.map fun z => SV.v z.val).length = m * ei.size := by
              intro m
              induction m with
              | zero => simp
              | succ m ih => rw [List.range_succ, List.flatMap_append, List.length_append, ih, Nat.succ_mul]; simp [hzl]
            exact this n
          have hcells : ((Array.range (n * ei.size)).map fun i => (if n * ei.size = 0 then (#[] : Array Value) else z.cells)[i % ei.size]!) = (dens E ((List.range n).flatMap fun _ => ei.zero.map fun z => SV.v z.val)).toArray := by
            apply Array.ext'
            have e1 : dens E ((List.range n).flatMap fun _ => ei.zero.map fun z => SV.v z.val) = (List.range n).flatMap fun _ => ei.zero.map Z.val := by
              rw [dens_map, List.map_flatMap]
              congr 1
              funext i
              rw [← dens_zeros E, dens_map]
            rw [e1]
            by_cases hn0 : n = 0
            · subst hn0; simp
            · have : n * ei.size ≠ 0 := Nat.mul_ne_zero hn0 (by omega)
              rw [if_neg this]
              have hzs : z.cells = (ei.zero.map Z.val).toArray := by rw [← hzc]
              rw [hzs]
              exact zeros_flat _ _ _ (by simpa using hzl) hk
          have hrun : (execOp a.eval o).run P w = .ok (.value (.slice (some ⟨w.heap.size, 0, none⟩) n n)) (w.alloc (.cells (dens E cs').toArray e)) := by
            have hsm : ¬ (16777216 < n * ei.size) := by
              have : n * ei.size ≤ 4096 * 4096 := Nat.mul_le_mul hn hk2
              omega
            have hparts : (parts.map fun x => (x.1, a.eval x.2)).toList = parts.toList.map fun x => (x.1, a.eval x.2) := by simp
            simp only [execOp, ho, Instr.buildSlice, Sem.run_bind, hr, Result.andThen, hs]
            rw [if_neg (by simpa using hsm)]
            by_cases h0 : n * ei.size = 0
            · have hn0 : n = 0 := by
                rcases Nat.mul_eq_zero.1 h0 with h | h
                · exact h
                · omega
              subst hn0
              have q4' : Instr.fill (fun i => some (i * ei.size, ei.size)) #[] (parts.toList.map fun x => (x.1, a.eval x.2)) = some (dens E cs').toArray := q4
              rw [if_pos h0]
              have hr0 : ∀ f : Nat → Value, (Array.range (0 * ei.size)).map f = #[] := fun f => by simp
              simp only [Sem.run_bind, Sem.run_pure, Result.andThen, hparts, hr0, q4']
              simp [newRow, Result.andThen]
            · rw [if_neg h0]
              simp only [if_neg h0] at hcells
              have hzsz : z.cells.size = ei.size := by
                have := congrArg List.length hzc
                simp only [Array.length_toList, List.length_map, hzl] at this
                exact this
              have hcells2 : ((Array.range (n * ei.size)).map fun i => z.cells[i % z.cells.size]!) = (dens E ((List.range n).flatMap fun _ => ei.zero.map fun z => SV.v z.val)).toArray := by rw [hzsz]; exact hcells
              simp only [Sem.run_bind, Sem.run_pure, Result.andThen, hz, hcells2, hparts, q4]
              simp [newRow, Result.andThen]
          refine ⟨_, _, _, _, hrun, .inl rfl, hM.newRow o.dst (old := none) (row := none) (by simp) (World.grownBy_alloc w _ none) (k := ei.size) ?_ ?_ (fun j hj => ⟨rowEl_length hlen hj, fun u hu => ⟨q2 u (rowEl_mem hu), pures_mem hp u (rowEl_mem hu)⟩⟩) hk (fun j hj u hu => q1 u (rowEl_mem hu)) rfl, fun hl => by simp [loud, ho] at hl, by simp only [wrow, wrote, ho]; exact World.grownBy_alloc w _ none, setVal_eq _ _ _, fresh_row _ _ _ _ _ _ _ _ _ _ fun b hb => ?_⟩
          · rw [flat_rowEl hlen, ← dens_pure E _ hp]
            have hl2 : (dens E cs').length = n * ei.size := by rw [dens_map, List.length_map, hlen]
            refine ⟨hl2, ?_⟩
            cases n with
            | zero => exact .inl ⟨_, rfl, rfl⟩
            | succ n => exact .inr ⟨w.heap.size, n, (dens E cs').toArray, rfl, heap_alloc_at _, Nat.le_refl _, by simp only [maxLen]; omega, by simpa using hl2, List.take_of_length_le (by simp [hl2])⟩
          · intro b hb
            cases n with
            | zero => simp [rowBlk] at hb
            | succ n => simp [rowBlk] at hb; exact .inl (by omega)
          · cases n with
            | zero => simp [rowBlk] at hb
            | succ n => simp [rowBlk] at hb; exact .inl (by omega)
        · trivial
      · trivial
    · trivial
  · trivial

/-! append -/
theorem append_run {t ty e : TypeId} {i : TypeInfo} {z : Value} (ht : P.underlying t = some (.slice e)) (hi : P.info? e = some i) (hz : i.zero = some z) (hzs : z.cells.size = i.size) (hsz : 0 < i.size)
    {v : Value} {n : Nat} {xs : List Value} (hR : Row w e i.size v n xs) {x : Value} {m : Nat} {news : List Value} (hx : (∃ c, x = .slice none 0 c ∧ m = 0) ∨ ∃ A c, x = .slice (some A) m c ∧ (∀ j u, news[j]? = some u → w.cell? (A.add j) = some u))
    (hl : news.length = m * i.size) (h1 : ∀ u ∈ news, u.oneCell' = true) (h63 : n + m ≤ maxLen) (hbytes : (n + m) * i.bytes ≤ 140737488355328) :
    ∃ v' w', (Builtin.append_ #[t, t] ty #[v, x]).run P w = .ok v' w' ∧ Row w' e i.size v' (n + m) (xs ++ news) ∧ w.grownBy w' (rowBlk v) ∧ (∀ b, rowBlk v' = some b → w.heap.size ≤ b ∨ rowBlk v = some b) ∧ v'.oneCell' = true := by
  have hsmall : n + m ≤ 9223372036854775807 := by simp only [maxLen] at h63; omega
  have hlen : (xs ++ news).length = (n + m) * i.size := by rw [List.length_append, hR.1, hl, Nat.add_mul]
  have stay : m = 0 → (Builtin.append_ #[t, t] ty #[v, x]).run P w = .ok v w → ∃ v' w', (Builtin.append_ #[t, t] ty #[v, x]).run P w = .ok v' w' ∧ Row w' e i.size v' (n + m) (xs ++ news) ∧ w.grownBy w' (rowBlk v) ∧ (∀ b, rowBlk v' = some b → w.heap.size ≤ b ∨ rowBlk v = some b) ∧ v'.oneCell' = true := by
    rintro rfl hrun
    have hn : news = [] := List.eq_nil_of_length_eq_zero (by simpa using hl)
    subst hn
    refine ⟨v, w, hrun, by simpa using hR, ⟨rfl, rfl, rfl, Nat.le_refl _, fun _ _ _ => rfl⟩, fun b hb => .inr hb, ?_⟩
    rcases hR.2 with ⟨A, rfl, _⟩ | ⟨g, c, cur, rfl, _⟩ <;> rfl
  have grown : ∀ (old : Nat), old < n + m → ∀ (row : Option Nat),
      Row (w.drew.alloc (.cells (xs.toArray ++ news.toArray ++ Builtin.zeroCells z.cells (grownCap w (n + m) old e - (n + m))) e)) e i.size
        (.slice (some ⟨w.heap.size, 0, none⟩) (n + m) (grownCap w (n + m) old e)) (n + m) (xs ++ news) ∧
      w.grownBy (w.drew.alloc (.cells (xs.toArray ++ news.toArray ++ Builtin.zeroCells z.cells (grownCap w (n + m) old e - (n + m))) e)) row := by
    intro old ho row
    have hge := grownCap_ge w (n + m) old e
    have hcm : grownCap w (n + m) old e ≤ maxLen := grownCap_le_maxLen w (n + m) old e h63
    obtain ⟨c, hc⟩ : ∃ c, grownCap w (n + m) old e = c + 1 := ⟨grownCap w (n + m) old e - 1, by omega⟩
    refine ⟨⟨hlen, .inr ⟨w.heap.size, c, _, by rw [hc], heap_alloc_at (w := w.drew) _, by omega, by omega, ?_, ?_⟩⟩, ⟨rfl, rfl, rfl, by simp, fun k hk _ => heap_alloc_lt (w := w.drew) _ hk⟩⟩
    · simp only [Array.size_append, List.size_toArray, size_zeroCells, hzs, hR.1, hl, ← Nat.add_mul]
      congr 1
      omega
    · simp only [Array.toList_append, List.append_assoc]
      rw [← List.append_assoc, ← hlen]
      exact List.take_left
  rcases hx with ⟨c', rfl, rfl⟩ | ⟨A, c', rfl, hnews⟩
  · refine stay rfl ?_
    rcases hR.2 with ⟨B, rfl, rfl⟩ | ⟨g, c, cur, rfl, hg, hnc, _⟩
    · cases B <;> simp [Builtin.append_, run_underlying ht, sizeOf, typeInfo, hi, Builtin.lenOf, Builtin.firstCells, storeCells]
    · simp [Builtin.append_, run_underlying ht, sizeOf, typeInfo, hi, Builtin.lenOf, Builtin.firstCells, hnc, storeCells]
  · rcases hR.2 with ⟨B, rfl, rfl⟩ | ⟨g, c, cur, rfl, hg, hnc, hcm, hcs, htake⟩
    · have hxs : xs = [] := List.eq_nil_of_length_eq_zero (by simpa using hR.1)
      subst hxs
      by_cases hm : m = 0
      · refine stay hm ?_
        subst hm
        have hn : news = [] := List.eq_nil_of_length_eq_zero (by simpa using hl)
        subst hn
        cases B <;> simp [Builtin.append_, run_underlying ht, sizeOf, typeInfo, hi, Builtin.lenOf, Builtin.firstCells, loadCells, loadCellsFrom, storeCells]
      · have hgr := grown 0 (by omega) (rowBlk (.slice B 0 0))
        cases B with
        | none =>
          have hr := run_append_nil (P := P) w t ty e i z ht hi hz A m c' news hl hnews (by omega) (by omega) (by have hb := hbytes; simp only [Nat.zero_add] at hb; omega)
          simp only [Nat.zero_add, List.nil_append, Array.empty_append] at hgr ⊢
          exact ⟨_, _, hr, hgr.1, hgr.2, fun b hb => by
            obtain ⟨q, hq⟩ : ∃ q, grownCap w m 0 e = q + 1 := ⟨grownCap w m 0 e - 1, by have := grownCap_ge w m 0 e; omega⟩
            rw [hq] at hb; simp [rowBlk] at hb; exact .inl (by omega), rfl⟩
        | some B =>
          have hr := run_append_grow (P := P) w t ty e i z ht hi hz B 0 0 [] (by simp) (by simp) A m c' news hl hnews (by omega) (by omega) (growslice_fits (by omega) hbytes)
          exact ⟨_, _, hr, hgr.1, hgr.2, fun b hb => by
            obtain ⟨q, hq⟩ : ∃ q, grownCap w (0 + m) 0 e = q + 1 := ⟨grownCap w (0 + m) 0 e - 1, by have := grownCap_ge w (0 + m) 0 e; omega⟩
            rw [hq] at hb; simp [rowBlk] at hb; exact .inl (by omega), rfl⟩
    · by_cases hroom : n + m ≤ c + 1
      · have hfit : n * i.size + news.length ≤ cur.size := by rw [hl, hcs, ← Nat.add_mul]; exact Nat.mul_le_mul_right _ hroom
        have hr := run_append_room (P := P) w t ty e i ht hi g n (c + 1) cur hg A m c' news hl hnews h1 hroom hfit
        refine ⟨_, _, hr, ⟨hlen, .inr ⟨g, c, _, rfl, setRow_heap w g cur _ e _ hg, hroom, hcm, ?_, ?_⟩⟩, setRow_grown w g _, fun b hb => .inr hb, rfl⟩
        · simp only [List.size_toArray, List.length_append, List.length_take, List.length_drop, Array.length_toList]
          omega
        · rw [htake, ← hlen]
          exact List.take_left
      · have holds : ∀ j u, xs[j]? = some u → w.cell? ((⟨g, 0, none⟩ : Addr).add j) = some u := fun j u hu => by
          rw [add_lit, cell_of_row w g _ cur e (0, 0) hg, ← Array.getElem?_toList]
          rw [← htake, List.getElem?_take] at hu
          split at hu
          · simpa using hu
          · simp at hu
        have hr := run_append_grow (P := P) w t ty e i z ht hi hz ⟨g, 0, none⟩ n (c + 1) xs hR.1 holds A m c' news hl hnews (by omega) (by omega) (growslice_fits (by omega) hbytes)
        have hgr := grown (c + 1) (by omega) (rowBlk (.slice (some ⟨g, 0, none⟩) n (c + 1)))
        exact ⟨_, _, hr, hgr.1, hgr.2, fun b hb => by
          obtain ⟨q, hq⟩ : ∃ q, grownCap w (n + m) (c + 1) e = q + 1 := ⟨grownCap w (n + m) (c + 1) e - 1, by have := grownCap_ge w (n + m) (c + 1) e; omega⟩
          rw [hq] at hb; simp [rowBlk] at hb; exact .inl (by omega), rfl⟩
theorem rowOf_ok (hM : Models XC X0 w0 st E a w) {x : SV} (hx : Ok st.no (Ex XC E st.ob) w x) {k m : Nat} {el : Nat → List SV} (h : rowOf st k x = some (m, el)) (hk : 0 < k) :
    ((∃ c, den E x = .slice none 0 c ∧ m = 0) ∨ ∃ A c, den E x = .slice (some A) m c ∧ (∀ j u, (dens E0 (flat m el))[j]? = some u → w.cell? (A.add j) = some u)) ∧
    (∀ j, j < m → (el j).length = k ∧ ∀ u ∈ el j, one u = true ∧ pure u = true) ∧ ∀ j, j < m → ∀ u ∈ el j, Ok st.no (Ex XC E st.ob) w u := by
  unfold rowOf at h
  split at h
  · rename_i A n c k' el0
    split at h
    · rename_i hk'
      subst hk'
      simp at h
      obtain ⟨rfl, rfl⟩ := h
      cases hx with
      | s hm hc hq hp ho =>
        have hlen : ∀ j, j < n → (el0 j).length = k' := fun j hj => (hq j hj).elim fun ad h => h.2.2.2.1
        refine ⟨?_, fun j hj => ⟨hlen j hj, fun u hu => ⟨(hp j hj u hu).2, (hp j hj u hu).1⟩⟩, ho⟩
        cases A with
        | none =>
          have : n = 0 := by
            rcases Nat.eq_zero_or_pos n with h | h
            · exact h
            · obtain ⟨ad, h1, _⟩ := hq 0 h; simp at h1
          subst this
          exact .inl ⟨c, rfl, rfl⟩
        | some A =>
          refine .inr ⟨A, c, rfl, fun j u hu => ?_⟩
          have hj : j < n * k' := by rw [← dens_flat_len hlen]; exact (List.getElem?_eq_some_iff.1 hu).1
          have hq1 : j / k' < n := Nat.div_lt_of_lt_mul (by rw [Nat.mul_comm]; exact hj)
          have hj2 : j = (j / k') * k' + j % k' := by rw [Nat.mul_comm]; exact (Nat.div_add_mod j k').symm
          have hu2 : (dens E0 (flat n el0))[(j / k') * k' + j % k']? = some u := by rw [← hj2]; exact hu
          rw [dens_map, List.getElem?_map, flat_get hlen hq1 (Nat.mod_lt _ hk)] at hu2
          cases hv : (el0 (j / k'))[j % k']? with
          | none => simp [hv] at hu2
          | some v =>
            simp [hv] at hu2
            obtain ⟨ad, h1, _, _, _, h2⟩ := hq (j / k') hq1
            simp at h1; subst h1
            have := h2 _ v hv
            rw [← hj2] at this
            rw [this, ← hu2]; rfl
    · simp at h
  · rename_i j
    split at h
    · rename_i e' k' n el0 hn
      split at h
      · rename_i hk'
        subst hk'
        simp at h
        obtain ⟨rfl, rfl⟩ := h
        have hob := hM.mem.ob j _ hn
        have hok := hM.mem.oko j _ hn
        refine ⟨?_, hob.2.1, hok⟩
        rcases hob.1.2 with ⟨A, hv, h0⟩ | ⟨g, c, cur, hv, hg, hnc, hcm, hcs, htake⟩
        · subst h0
          cases A with
          | none => exact .inl ⟨0, hv, rfl⟩
          | some A => exact .inr ⟨A, 0, hv, fun j u hu => by simp [flat, dens] at hu⟩
        · refine .inr ⟨_, _, hv, fun j u hu => ?_⟩
          rw [add_lit, cell_of_row w g _ cur e' (0, 0) hg, ← Array.getElem?_toList]
          rw [← htake, List.getElem?_take] at hu
          split at hu
          · simpa using hu
          · simp at hu
      · simp at h
    · simp at h
  · simp at h
    obtain ⟨rfl, rfl⟩ := h
    exact ⟨.inl ⟨0, rfl, rfl⟩, fun j hj => by omega, fun j hj => by omega⟩
  · simp at h
theorem flat_app {n m : Nat} {el el' : Nat → List SV} : flat (n + m) (appEl n el el') = flat n el ++ flat m el' := by
  induction m with
  | zero =>
    rw [Nat.add_zero, flat_congr (el' := el) fun j hj => by simp only [appEl]; rw [if_pos hj]]
    simp [flat]
  | succ m ih =>
    rw [← Nat.add_assoc, flat_succ, ih, flat_succ, List.append_assoc]
    congr 2
    simp only [appEl]
    rw [if_neg (by omega)]
    congr 1; omega
/-- what append leaves -/
theorem x_app (hT : TabOk P T) (hM : Models XC X0 w0 st E a w) {o : Oper} {t e : Nat} {ti ei : TI} (ht : ty T t = some ti) (htd : ti.d = .sl e) (hei : ty T e = some ei) {args : Array Operand} {ats : Array TypeId} (ho : o.op = .call { callee := .builtin .append, args := args, argTypes := ats }) (hats : ats = #[t, t])
    {s x : SV} (hargs : args.map a.eval = #[den E s, den E x]) (hxo : Ok st.no (Ex XC E st.ob) w x) {m : Nat} {el' : Nat → List SV} (hr : rowOf st ei.size x = some (m, el')) (hk : 0 < ei.size)
    {n : Nat} {el : Nat → List SV} {old : Option Nat} (hR : Row w e ei.size (den E s) n (dens E0 (flat n el))) (hel : ∀ j, j < n → (el j).length = ei.size ∧ ∀ u ∈ el j, one u = true ∧ pure u = true) (hok : ∀ j, j < n → ∀ u ∈ el j, Ok st.no (Ex XC E st.ob) w u)
    (hold : ∀ b, rowBlk (den E s) = some b → ∃ i o, old = some i ∧ nth st.ob i = some o ∧ blk E i o = some b) (hwr : wrow st E o = rowBlk (den E s)) (h63 : n + m ≤ maxLen) (hby : (n + m) * ei.bytes ≤ 140737488355328) :
    StepOk P XC X0 w0 st E a w o (st.row o.dst e ei.size (n + m) (appEl n el el') old) := by
  obtain ⟨hx, hel', hok'⟩ := rowOf_ok hM hxo hr hk
  have hti := hT t ti (ty_mem ht)
  obtain ⟨d, hd, hf, _⟩ := hti.under_run w
  rw [htd] at hf
  have hf' : d = .slice e := hf
  subst hf'
  obtain ⟨i, hi, hsz, hbt, z, hz, hzc⟩ := (hT e ei (ty_mem hei)).info
  have hzl := (hT e ei (ty_mem hei)).zl
  have hzs : z.cells.size = i.size := by
    have := congrArg List.length hzc
    simp only [Array.length_toList, List.length_map] at this
    omega
  have hone : ∀ u ∈ dens E0 (flat m el'), u.oneCell' = true := fun u hu => by
    rw [dens_map] at hu
    obtain ⟨y, hy, rfl⟩ := List.mem_map.1 hu
    obtain ⟨j, hj, hy⟩ := flat_mem hy
    have := one_den hM ((hel' j hj).2 y hy).1
    rw [den_pure E y ((hel' j hj).2 y hy).2] at this
    exact this
  obtain ⟨v', w', hrun, hR', hg, hb, hv⟩ := append_run (P := P) (w := w) (t := t) (ty := o.type) hd hi hz hzs (by omega) (by rw [hsz]; exact hR) hx (by rw [hsz]; exact dens_flat_len fun j hj => (hel' j hj).1) hone h63 (by rw [hbt]; exact hby)
  have hexec : (execOp a.eval o).run P w = .ok (.value v') w' := by
    subst hats
    simp only [execOp, ho, resolve, Sem.run_bind, Sem.run_pure, Result.andThen, invoke, builtin, hargs]
    simp only [hrun]
  refine ⟨_, _, _, w', hexec, .inl rfl, hM.newRow o.dst (row := rowBlk (den E s)) hold hg ?_ hb (fun j hj => ?_) hk (fun j hj => ?_) hv, fun hl => by simp [loud, ho] at hl, by rw [hwr]; exact hg, setVal_eq _ _ _, by rw [hwr]; exact fresh_row _ _ _ _ _ _ _ _ _ _ hb⟩
  · rw [flat_app, hsz] at *
    rw [dens_map, List.map_append, ← dens_map, ← dens_map]
    exact hR'
  · simp only [appEl]
    split
    · exact hel j (by assumption)
    · exact hel' _ (by omega)
  · simp only [appEl]
    split
    · exact hok j (by assumption)
    · exact hok' _ (by omega)
end
end Go.SE
set_option linter.unusedVariables false
set_option linter.unusedSimpArgs false
namespace Go.SE
open Go.RowKit

section
variable {P : Program} {T : List (Nat × TI)} {XC X0 : Nat → Prop} {w0 : World} {st : St} {E : Env} {a : Act} {w : World}

theorem args_eq {xs : Array Operand} {l : List SV} (h : xs.toList.map a.eval = dens E l) : xs.map a.eval = (dens E l).toArray := by
  rw [← h]; exact Array.ext' (by simp)

theorem x_call (hT : TabOk P T) (hM : Models XC X0 w0 st E a w) {o : Oper} {c : Call} (ho : o.op = .call c) : XOk P XC X0 w0 st E a w o (exec T st o) := by
  obtain ⟨cal, args, ats⟩ := c
  cases cal with
  | value f =>
    simp only [exec, ho]
    split
    · rename_i g caps l hf hl
      obtain ⟨e1, e2⟩ := ev_ok hM hf
      obtain ⟨e3, e4⟩ := evs_ok hM hl
      refine ⟨fun r hent => ?_, fun u hu => ?_⟩
      · have : (dens E l).toArray ++ (dens E caps).toArray = (dens E (l ++ caps)).toArray := by simp [dens_map]
        simp only [execOp, ho, resolve, Sem.run_bind, args_eq e3, e1, den, Deferred.ofValue, Sem.run_pure, Result.andThen, invoke]
        simp only [Array.empty_append, this, hent]
      · rcases List.mem_append.1 hu with h | h
        · exact e4 u h
        · cases e2 with | f hc => exact hc u h
    · rename_i i l hf hl
      obtain ⟨e1, e2⟩ := ev_ok hM hf
      obtain ⟨e3, e4⟩ := evs_ok hM hl
      refine ⟨fun r hr => ?_, e4⟩
      simp only [execOp, ho, resolve, Sem.run_bind, args_eq e3, e1, den, Deferred.ofValue, Sem.run_pure, Result.andThen, invoke]
      simpa using hr
    · trivial
  | invoke r m => simp only [exec, ho]; trivial
  | builtin b =>
    cases b
    case len =>
      simp only [exec, ho]
      split
      · rename_i t hat
        split
        · rename_i sz by_ e z eqs ht
          obtain ⟨d, hd, hf, hr⟩ := (hT t _ (ty_mem ht)).under_run w
          have hf' : d = .slice e := hf
          subst hf'
          have hats : ats = #[t] := Array.ext' (by simpa using hat)
          have run : ∀ A n c, args.map a.eval = #[.slice A n c] → (execOp a.eval o).run P w = .ok (.value (.int .i64 n)) w := fun A n c h => by
            simp only [execOp, ho, resolve, Sem.run_bind, Sem.run_pure, Result.andThen, invoke, builtin, h, Builtin.len_, hats]
            simp [hr, Result.andThen, goInt]
          split
          · rename_i A n c k el hl
            exact value_ok' hM (.v _) rfl (run A n c (args_eq (evs_ok hM hl).1))
          · rename_i A n c hl
            exact value_ok' hM (.v _) rfl (run A n c (args_eq (evs_ok hM hl).1))
          · rename_i j hl
            split
            · rename_i e' k n el hn
              have hob := hM.mem.ob j _ hn
              have h := args_eq (evs_ok hM hl).1
              simp only [dens, den] at h
              rcases hob.1.2 with ⟨A, hv, h0⟩ | ⟨g, c, cur, hv, _⟩
              · rw [hv] at h; subst h0
                exact value_ok' hM (.v _) rfl (run _ _ _ h)
              · rw [hv] at h
                exact value_ok' hM (.v _) rfl (run _ _ _ h)
            · trivial
          · trivial
        · trivial
      · trivial
    case append =>
      simp only [exec, ho]
      split
      · rename_i t t' hat
        split
        · rename_i htt
          subst htt
          have hats : ats = #[t, t] := Array.ext' (by simpa using hat)
          split
          · rename_i sz by_ e z eqs ht
            split
            · rename_i ei hei
              split
              · rename_i i x hl
                obtain ⟨h1, h2⟩ := evs_ok hM hl
                have hargs := args_eq h1
                split
                · rename_i e' k n el m el' hn hr
                  split
                  · rename_i hc
                    obtain ⟨rfl, rfl, _⟩ := hc
                    rintro ⟨g1, g2⟩
                    have hob := hM.mem.ob i _ hn
                    exact x_app hT hM ht rfl hei ho hats hargs (h2 x (by simp)) hr hob.2.2 hob.1 hob.2.1 (hM.mem.oko i _ hn) (fun b hb => ⟨i, _, rfl, hn, hb⟩) (by simp only [wrow, wrote, ho, hl, Option.bind_some, hn, blk, den]) g1 g2
                  · trivial
                · trivial
              · rename_i x hl
                obtain ⟨h1, h2⟩ := evs_ok hM hl
                have hargs := args_eq h1
                split
                · rename_i m el' hr
                  split
                  · rename_i hk
                    rintro ⟨g1, g2⟩
                    have := x_app hT hM ht rfl hei ho hats hargs (h2 x (by simp)) hr hk (n := 0) (el := fun _ => []) (old := none) ⟨by simp [flat, dens], .inl ⟨none, rfl, rfl⟩⟩ (by simp) (by simp) (by simp [den, rowBlk]) (by simp [wrow, wrote, ho, hl, den, rowBlk]) (by simpa using g1) (by simpa using g2)
                    rw [Nat.zero_add, show appEl 0 (fun _ => []) el' = el' from funext fun j => by simp [appEl]] at this
                    exact this
                  · trivial
                · trivial
              · rename_i A k0 el0 x hl
                obtain ⟨h1, h2⟩ := evs_ok hM hl
                have hargs := args_eq h1
                split
                · rename_i m el' hr
                  split
                  · rename_i hk
                    rintro ⟨g1, g2⟩
                    have := x_app hT hM ht rfl hei ho hats hargs (h2 x (by simp)) hr hk (n := 0) (el := fun _ => []) (old := none) ⟨by simp [flat, dens], .inl ⟨A, rfl, rfl⟩⟩ (by simp) (by simp) (by cases A <;> simp [den, rowBlk]) (by cases A <;> simp [wrow, wrote, ho, hl, den, rowBlk]) (by simpa using g1) (by simpa using g2)
                    rw [Nat.zero_add, show appEl 0 (fun _ => []) el' = el' from funext fun j => by simp [appEl]] at this
                    exact this
                  · trivial
                · trivial
              · trivial
            · trivial
          · trivial
        · trivial
      · trivial
    case min =>
      simp only [exec, ho]
      split
      · rename_i k x k' y hl
        have h := args_eq (evs_ok hM hl).1
        refine value_ok' hM (.v _) rfl ?_
        simp only [execOp, ho, resolve, Sem.run_bind, Sem.run_pure, Result.andThen, invoke, builtin, h, Builtin.min_, dens, den]
        simp [Builtin.min2, Result.andThen]
      · trivial
    case max =>
      simp only [exec, ho]
      split
      · rename_i k x k' y hl
        have h := args_eq (evs_ok hM hl).1
        refine value_ok' hM (.v _) rfl ?_
        simp only [execOp, ho, resolve, Sem.run_bind, Sem.run_pure, Result.andThen, invoke, builtin, h, Builtin.max_, dens, den]
        simp [Builtin.max2, Result.andThen]
      · trivial
    all_goals (simp only [exec, ho]; trivial)

theorem x_makeInterface (hT : TabOk P T) (hM : Models XC X0 w0 st E a w) {o : Oper} {t : TypeId} {x : Operand} (ho : o.op = .makeInterface t x) : XOk P XC X0 w0 st E a w o (exec T st o) := by
  simp only [exec, ho]
  split
  · rename_i ti ht
    split
    · trivial
    · rename_i d u hd hu hw
      obtain ⟨e1, e2⟩ := ev_ok hM hu
      obtain ⟨dd, h1, h2, h3⟩ := (hT t ti (ty_mem ht)).under_run w
      refine value_ok hM (.ifc e2) ?_
      have hni : ∀ m, dd ≠ .interface m := by
        rintro m rfl
        cases hdd : ti.d <;> rw [hdd] at h2 hw <;> simp_all [TD.fits]
      simp only [execOp, ho, Instr.makeInterface, Sem.run_bind, h3, Result.andThen, e1, den]
      cases dd <;> first | rfl | exact absurd rfl (hni _)
    · trivial
  · trivial
theorem exec_ok (hT : TabOk P T) (hE : EqOk P T) (hM : Models XC X0 w0 st E a w) (o : Oper) : XOk P XC X0 w0 st E a w o (exec T st o) := by
  cases ho : o.op
  case move x => have := x_move (P := P) hM (o := o) (x := x) (.inl ho); simpa only [exec, ho] using this
  case assign x => have := x_move (P := P) hM (o := o) (x := x) (.inr ho); simpa only [exec, ho] using this
  case pick => exact x_pick hM ho
  case alloc => exact x_alloc hT hM ho
  case box => exact x_box hM ho
  case build => exact x_build hT hM ho
  case load => exact x_load hT hM ho
  case store => exact x_store hT hM ho
  case nilCheck => exact x_nilCheck hM ho
  case binOp => exact x_binOp hT hE hM ho
  case unOp => exact x_unOp hM ho
  case convert => exact x_convert hT hM ho
  case makeFunc => exact x_makeFunc hM ho
  case fieldAddr => exact x_fieldAddr hT hM ho
  case field => exact x_field hT hM ho
  case indexAddr => exact x_indexAddr hT hM ho
  case index => exact x_index hT hM ho
  case buildSlice => exact x_buildSlice hT hM ho
  case makeInterface => exact x_makeInterface hT hM ho
  case slice => exact x_slice hT hM ho
  case extract => exact x_extract hM ho
  case call => exact x_call hT hM ho
  all_goals (simp only [exec, ho]; trivial)
end
end Go.SE
set_option linter.unusedVariables false
set_option linter.unusedSimpArgs false
namespace Go.SE
open Go.RowKit

/-! ### a stack that runs to its end -/
/-- From here on (the frame b, above those of up) the lowest frame (of fo) comes to its end, as R says. -/
def GS (P : Program) (b : Frame) (up : List Frame) (fo : Nat) (R : Ending → World → Prop) (a : Act) (todo : List Item) (w : World) : Prop :=
  ∀ cs, ∃ e w' fr, R e w' ∧ Comes P (lone (b.atR a todo) (up ++ cs) w) (lone fr cs w') e ∧ fr.fn = fo ∧ fr.leaving P w' e

/-- What goes on by steps. -/
structure Closed (P : Program) (b : Frame) (G : Act → List Item → World → Prop) : Prop where
  step : ∀ {a todo w a' todo' w'}, (∀ cs, step P (lone (b.atR a todo) cs w) = .next (lone (b.atR a' todo') cs w')) → G a' todo' w' → G a todo w
  call : ∀ {a : Act} {ops : Array Oper} {i : Nat} {rest : List Nat} {k : List Item} {w : World} {o : Oper} {f : FuncId} {args : Array Value} {R : Ending → World → Prop},
    ops[i]? = some o → Region.wanted o (yielded ops a.tmps) = true → (∀ c, o.op ≠ .defer c) → (execOp a.eval o).run P w = .ok (.enter f args) w → Calls P f args w R →
    (∀ e w', R e w' → ∃ v, e = .returned v ∧ G (a.put o.dst v) (.inRegion ops rest :: k) w') → G a (.inRegion ops (i :: rest) :: k) w

theorem gs_closed (P : Program) (b : Frame) (up : List Frame) (fo : Nat) (R : Ending → World → Prop) : Closed P b (GS P b up fo R) where
  step := fun h g cs => by
    obtain ⟨e, w', fr, h1, h2, h3⟩ := g cs
    exact ⟨e, w', fr, h1, Comes.of_steps (.one (h (up ++ cs))) h2, h3⟩
  call := fun {a ops i rest k w o f args R'} ho hw hnd hr hc hk cs => by
    obtain ⟨e, w1, fr1, r1, c1, f1, l1⟩ := hc (b.atR a (.inRegion ops (i :: rest) :: k) :: (up ++ cs))
    obtain ⟨v, rfl, hG⟩ := hk e w1 r1
    obtain ⟨e2, w2, fr2, r2, c2, f2, l2⟩ := hG cs
    have hg := stepGR_op (P := P) (b := b) (k := k) (cs := up ++ cs) (w := w) (rest := rest) ho hw
    rw [Oper.semAt_eq _ _ _ hnd] at hg
    have henter : step P (lone (b.atR a (.inRegion ops (i :: rest) :: k)) (up ++ cs) w) = .next (lone (Frame.enter P f args .normal) (b.atR a (.inRegion ops (i :: rest) :: k) :: (up ++ cs)) w) :=
      step_lone_go (by rw [hg]; simp [stepG.apply, hr, Frame.atR])
    have hfin : (b.atR a (.inRegion ops (i :: rest) :: k)).finish v = b.atR (a.put o.dst v) (.inRegion ops rest :: k) := by rw [Frame.finish_atR, ho]; rfl
    have hleave := step_leave_returned (c := b.atR a (.inRegion ops (i :: rest) :: k)) (cs := up ++ cs) l1
    rw [hfin] at hleave
    refine ⟨e2, w2, fr2, r2, ?_, f2, l2⟩
    exact Comes.of_steps (Steps.head henter (Steps.trans c1 (.one hleave))) c2

/-! ### events -/
inductive Ev where
  | br (b : Bool) (t1 : List Item) (g1 : List (Nat × Bool)) (s1 : St) (t2 : List Item) (g2 : List (Nat × Bool)) (s2 : St)
  | need (p : Prop) (t : List Item) (gd : List (Nat × Bool)) (st : St)
  | call (f : Nat) (args : List SV) (d : Option Tmp) (t : List Item) (gd : List (Nat × Bool)) (st : St)
  | loop (c : Code) (k : List Item) (st : St)
  | at_ (todo : List Item) (gd : List (Nat × Bool)) (st : St)
  | no
def lookb : List (Nat × Bool) → Nat → Option Bool
  | [], _ => none
  | (k, b) :: r, n => if k = n then some b else lookb r n
def freshd (gd : List (Nat × Bool)) : Option Tmp → Bool
  | none => true
  | some d => (lookb gd d).isNone
/-- One operation of a region, its guard being met. -/
def runOp (T : List (Nat × TI)) (st : St) (o : Oper) (here rest : List Item) (gd : List (Nat × Bool)) (again : St → Ev) : Ev :=
  if freshd gd o.dst = true then
    match exec T st o with
    | .ok st' => again st'
    | .need p st' => .need p rest gd st'
    | .call f args => if pures args then .call f args o.dst rest gd st else .at_ here gd st
    | _ => .at_ here gd st
  else .at_ here gd st
def run (T : List (Nat × TI)) : Nat → List Item → List (Nat × Bool) → St → Ev
  | 0, todo, gd, st => .at_ todo gd st
  | n + 1, todo, gd, st =>
    match todo with
    | [] => .at_ todo gd st
    | .code c :: k =>
      match c with
      | .skip => run T n k gd st
      | .label _ => run T n k gd st
      | .seq x y => run T n (.code x :: .code y :: k) gd st
      | .cond c x y =>
        match ev st c with
        | some (.v (.bool b)) => .br b (.code x :: k) gd st (.code y :: k) gd st
        | _ => .at_ todo gd st
      | .block id c => run T n (.code c :: .inBlock id :: k) gd st
      | .loop c => .loop c k st
      | .exit id =>
        match exitTo id k with
        | some k' => run T n k' gd st
        | none => .at_ todo gd st
      | .region id ops draw =>
        match draw with
        | false => run T n (.inRegion ops (List.range ops.size) :: k) [] st
        | true => .at_ todo gd st
      | _ => .at_ todo gd st
    | .inBlock _ :: k => run T n k gd st
    | .inScope _ :: k => run T n k gd st
    | .inLoop c :: k => .loop c k st
    | .inRegion ops l :: k =>
      match l with
      | [] => run T n k [] st
      | i :: rest =>
        match ops[i]? with
        | none => .no
        | some o =>
          match o.guard with
          | none => runOp T st o todo (.inRegion ops rest :: k) gd fun st' => run T n (.inRegion ops rest :: k) gd st'
          | some (j, want) =>
            match ops[j]? with
            | some { dst := some t, .. } =>
              match lookb gd t with
              | some b =>
                match b == want with
                | true => runOp T st o todo (.inRegion ops rest :: k) gd fun st' => run T n (.inRegion ops rest :: k) gd st'
                | false => if freshd gd o.dst = true then run T n (.inRegion ops rest :: k) gd (st.put o.dst (.v undef)) else .no
              | none =>
                if t < st.nt then
                  match look st.tm t with
                  | some (.v (.bool b)) => .br b todo ((t, true) :: gd) { st with tm := (t, .v (.bool true)) :: st.tm } todo ((t, false) :: gd) { st with tm := (t, .v (.bool false)) :: st.tm }
                  | some (.v (.tuple _)) => if freshd gd o.dst = true then run T n (.inRegion ops rest :: k) gd (st.put o.dst (.v undef)) else .no
                  | _ => .no
                else .no
            | _ => .no
    | _ => .at_ todo gd st

section
variable {P : Program} {T : List (Nat × TI)} {XC X0 : Nat → Prop} {w0 : World} {b : Frame} {G : Act → List Item → World → Prop}

def GdOk (gd : List (Nat × Bool)) (a : Act) : Prop := ∀ t b, lookb gd t = some b → a.tmps[t]? = some (.bool b)
/-- From every machine that a state tells. -/
def SG (XC X0 : Nat → Prop) (w0 : World) (G : Act → List Item → World → Prop) (todo : List Item) (gd : List (Nat × Bool)) (st : St) : Prop :=
  ∀ E a w, Models XC X0 w0 st E a w → GdOk gd a → G a todo w

def EvOk (P : Program) (XC X0 : Nat → Prop) (w0 : World) (G : Act → List Item → World → Prop) : Ev → Prop
  | .br b t1 g1 s1 t2 g2 s2 => (b = true → SG XC X0 w0 G t1 g1 s1) ∧ (b = false → SG XC X0 w0 G t2 g2 s2)
  | .need p t gd st => p ∧ SG XC X0 w0 G t gd st
  | .call f args d t gd st => (∀ l W, (callFunc f l).run P W = .ok (.enter f l) W) ∧ ∀ E a w, Models XC X0 w0 st E a w → GdOk gd a → (∀ u ∈ args, Ok st.no (Ex XC E st.ob) w u) →
      ∃ R, Calls P f (dens E args).toArray w R ∧ ∀ e w', R e w' → ∃ v, e = .returned v ∧ G (a.put d v) t w'
  | .loop c k st => SG XC X0 w0 G (.code c :: .inLoop c :: k) [] st
  | .at_ todo gd st => SG XC X0 w0 G todo gd st
  | .no => False

theorem gd_put {gd : List (Nat × Bool)} {a : Act} (h : GdOk gd a) {d : Option Tmp} (hd : freshd gd d = true) (v : Value) : GdOk gd (a.put d v) := by
  cases d with
  | none => exact h
  | some d =>
    intro t b ht
    simp only [freshd] at hd
    have : t ≠ d := by rintro rfl; rw [ht] at hd; simp at hd
    simp only [Act.put, Array.getElem?_setIfInBounds, if_neg (Ne.symm this)]
    exact h t b ht

theorem wanted_none {o : Oper} (h : o.guard = none) (y : Nat → Option Bool) : Region.wanted o y = true := by simp [Region.wanted, h]

theorem exec_defer {T : List (Nat × TI)} {st : St} {o : Oper} {c : Call} (h : o.op = .defer c) : exec T st o = .no := by simp [exec, h]
theorem step_value {ops : Array Oper} {i : Nat} {rest : List Nat} {k : List Item} {a : Act} {w w' : World} {o : Oper} {r : Next} {v : Value} (hnd : ∀ c, o.op ≠ .defer c) (ho : ops[i]? = some o) (hw : Region.wanted o (yielded ops a.tmps) = true)
    (hr : (execOp a.eval o).run P w = .ok r w') (hv : r = .value v ∨ (r = .skip ∧ v = undef)) (cs : List Frame) :
    step P (lone (b.atR a (.inRegion ops (i :: rest) :: k)) cs w) = .next (lone (b.atR (a.put o.dst v) (.inRegion ops rest :: k)) cs w') := by
  have hg := stepGR_op (P := P) (b := b) (k := k) (cs := cs) (w := w) (rest := rest) ho hw
  rw [Oper.semAt_eq _ _ _ hnd] at hg
  have hfin : (b.atR a (.inRegion ops (i :: rest) :: k)).finish v = b.atR (a.put o.dst v) (.inRegion ops rest :: k) := by rw [Frame.finish_atR, ho]; rfl
  refine step_lone_go ?_
  rw [hg, ← hfin]
  rcases hv with rfl | ⟨rfl, rfl⟩ <;> simp [stepG.apply, hr]

theorem runOp_ok (hT : TabOk P T) (hE : EqOk P T) (hG : Closed P b G) {st : St} {gd : List (Nat × Bool)} {ops : Array Oper} {i : Nat} {rest : List Nat} {k : List Item} {o : Oper} (ho : ops[i]? = some o)
    {again : St → Ev} (hag : ∀ st', EvOk P XC X0 w0 G (again st') → SG XC X0 w0 G (.inRegion ops rest :: k) gd st') (h : EvOk P XC X0 w0 G (runOp T st o (.inRegion ops (i :: rest) :: k) (.inRegion ops rest :: k) gd again))
    {E : Env} {a : Act} {w : World} (hM : Models XC X0 w0 st E a w) (hgd : GdOk gd a) (hw : Region.wanted o (yielded ops a.tmps) = true) : G a (.inRegion ops (i :: rest) :: k) w := by
  unfold runOp at h
  split at h
  · rename_i hfd
    have hx := exec_ok hT hE hM o
    split at h
    · rename_i st' he
      rw [he] at hx
      obtain ⟨r, v, E', w', h1, h2, h3, _, _, _⟩ := hx
      exact hG.step (step_value (fun c hc => by rw [exec_defer hc] at he; cases he) ho hw h1 h2) (hag st' h E' _ w' h3 (gd_put hgd hfd v))
    · rename_i p st' he
      rw [he] at hx
      obtain ⟨r, v, E', w', h1, h2, h3, _, _, _⟩ := hx h.1
      exact hG.step (step_value (fun c hc => by rw [exec_defer hc] at he; cases he) ho hw h1 h2) (h.2 E' _ w' h3 (gd_put hgd hfd v))
    · rename_i f args he
      split at h
      · rw [he] at hx
        obtain ⟨g1, g2⟩ := hx
        obtain ⟨R, hc, hk⟩ := h.2 E a w hM hgd g2
        exact hG.call ho hw (fun c hc' => by rw [exec_defer hc'] at he; cases he) (g1 _ (h.1 _ _)) hc hk
      · exact h E a w hM hgd
    · exact h E a w hM hgd
  · exact h E a w hM hgd

theorem Models.cons_tm {st : St} {E : Env} {a : Act} {w : World} (hM : Models XC X0 w0 st E a w) {t : Nat} {x : Value} (hv : a.tmps[t]? = some x) : Models XC X0 w0 { st with tm := (t, .v x) :: st.tm } E a w := by
  refine ⟨hM.mem, ⟨hM.cur.size, hM.cur.defers, hM.cur.dfl, fun t' u hu ht' => ?_, fun t' u hu => ?_⟩, hM.sus⟩
  · simp only [St.cur, look] at hu
    split at hu
    · rename_i he; subst he; simp at hu; subst hu; exact hv
    · exact hM.cur.tm t' u hu ht'
  · simp only [St.cur, look] at hu
    split at hu
    · simp at hu; subst hu; exact .v _
    · exact hM.cur.oks t' u hu
theorem run_ok (hT : TabOk P T) (hE : EqOk P T) (hG : Closed P b G) : ∀ (n : Nat) (todo : List Item) (gd : List (Nat × Bool)) (st : St), EvOk P XC X0 w0 G (run T n todo gd st) → SG XC X0 w0 G todo gd st := by
  intro n
  induction n with
  | zero => intro todo gd st h; exact h
  | succ n ih =>
    intro todo gd st h E a w hM hgd
    unfold run at h
    split at h
    · exact h E a w hM hgd
    · rename_i c k
      split at h
      · exact hG.step (fun cs => stepR_skip) (ih _ _ _ h E a w hM hgd)
      · exact hG.step (fun cs => stepR_label) (ih _ _ _ h E a w hM hgd)
      · exact hG.step (fun cs => stepR_seq) (ih _ _ _ h E a w hM hgd)
      · rename_i c x y
        split at h
        · rename_i bb hc
          have he : a.eval c = .bool bb := (ev_ok hM hc).1
          refine hG.step (fun cs => stepR_cond he) ?_
          cases bb with
          | true => exact h.1 rfl E a w hM hgd
          | false => exact h.2 rfl E a w hM hgd
        · exact h E a w hM hgd
      · exact hG.step (fun cs => stepR_block) (ih _ _ _ h E a w hM hgd)
      · exact hG.step (fun cs => stepR_loop) (h E a w hM (fun t b ht => by simp [lookb] at ht))
      · rename_i id
        split at h
        · rename_i k' hk
          exact hG.step (fun cs => stepR_exit hk) (ih _ _ _ h E a w hM hgd)
        · exact h E a w hM hgd
      · rename_i id ops draw
        split at h
        · exact hG.step (fun cs => stepR_region) (ih _ _ _ h E a w hM (fun t b ht => by simp [lookb] at ht))
        · exact h E a w hM hgd
      · exact h E a w hM hgd
    · exact hG.step (fun cs => stepR_inBlock) (ih _ _ _ h E a w hM hgd)
    · rename_i c k
      exact hG.step (todo' := k) (a' := a) (w' := w) (fun cs => step_lone_go (by simp [stepG, stepG.exec, Frame.atR])) (ih _ _ _ h E a w hM hgd)
    · exact hG.step (fun cs => stepR_inLoop) (h E a w hM (fun t b ht => by simp [lookb] at ht))
    · rename_i ops l k
      split at h
      · exact hG.step (fun cs => stepR_region_end) (ih _ _ _ h E a w hM (fun t b ht => by simp [lookb] at ht))
      · rename_i i rest
        split at h
        · exact h.elim
        · rename_i o ho
          split at h
          · rename_i hg
            exact runOp_ok hT hE hG ho (fun st' h' => ih _ _ _ h') h hM hgd (wanted_none hg _)
          · rename_i j want hg
            split at h
            · rename_i t op_ ty_ pos_ after_ gu_ hj
              have hskip : ∀ {st' : St}, st' = st.put o.dst (.v undef) → Region.wanted o (yielded ops a.tmps) = false → freshd gd o.dst = true → EvOk P XC X0 w0 G (run T n (.inRegion ops rest :: k) gd st') → G a (.inRegion ops (i :: rest) :: k) w := by
                intro st' hst hw hfd h'
                subst hst
                refine hG.step (fun cs => stepR_op_skip (by simp [ho, hw])) ?_
                simp only [ho, Option.bind_some]
                exact ih _ _ _ h' E _ w (hM.put o.dst (.v _) rfl) (gd_put hgd hfd _)
              split at h
              · rename_i bb hbb
                have hy : yielded ops a.tmps j = some bb := by simp [yielded, hj, hgd t bb hbb]
                split at h
                · rename_i heq
                  exact runOp_ok hT hE hG ho (fun st' h' => ih _ _ _ h') h hM hgd (by simp [Region.wanted, hg, hy]; simpa using heq)
                · rename_i heq
                  split at h
                  · rename_i hfd
                    exact hskip rfl (by simp [Region.wanted, hg, hy]; simpa using heq) hfd h
                  · exact h.elim
              · rename_i hbb
                split at h
                · rename_i hlt
                  split at h
                  · rename_i bb hl
                    have hv : a.tmps[t]? = _ := hM.cur.tm t _ hl hlt
                    have hM2 : ∀ b2, bb = b2 → Models XC X0 w0 { st with tm := (t, .v (.bool b2)) :: st.tm } E a w ∧ GdOk ((t, b2) :: gd) a := by
                      intro b2 hb2
                      subst hb2
                      refine ⟨hM.cons_tm hv, fun t' b' hb' => ?_⟩
                      simp only [lookb] at hb'
                      split at hb'
                      · rename_i he; subst he; simp at hb'; subst hb'; exact hv
                      · exact hgd t' b' hb'
                    cases bb with
                    | true => exact h.1 rfl E a w (hM2 true rfl).1 (hM2 true rfl).2
                    | false => exact h.2 rfl E a w (hM2 false rfl).1 (hM2 false rfl).2
                  · rename_i vs hl
                    have hv : a.tmps[t]? = _ := hM.cur.tm t _ hl hlt
                    have hy : yielded ops a.tmps j = none := by simp [yielded, hj, hv, den]
                    split at h
                    · rename_i hfd
                      exact hskip rfl (by simp [Region.wanted, hg, hy]) hfd h
                    · exact h.elim
                  · exact h.elim
                · exact h.elim
            · exact h.elim
    · exact h E a w hM hgd
end
end Go.SE
set_option linter.unusedVariables false
set_option linter.unusedSimpArgs false
namespace Go.SE
open Go.RowKit

/-- The function is one with a body of its own. -/
def Ent (P : Program) (f : Nat) : Prop := ∀ (l : Array Value) (W : World), (callFunc f l).run P W = .ok (.enter f l) W
theorem ent_of {P : Program} {f : Nat} {fn : Func} {c : Code} (hf : P.funcs[f]? = some fn) (hn : (fn.name == "runtime.NumGoroutine") = false) (hb : fn.body = some c) : Ent P f := by
  intro l W
  have hn' : ¬ fn.name = "runtime.NumGoroutine" := by simpa using hn
  simp [callFunc, hf, hn', hb, Result.andThen]

/-- The contract of a function that hands back fresh data, and turns nothing: at these arguments, whatever y, it may hand back 'res y'. -/
structure PureC (P : Program) (f : Nat) (args : List SV) (Y : Type) (res : Y → SV) (post : Y → Prop) : Prop where
  ent : Ent P f
  pa : pures args = true
  pr : ∀ y, pure (res y) = true
  calls : ∀ (X : Nat → Prop) (w : World), (∀ b, X b → b < w.heap.size) → (∀ u ∈ args, Ok 0 X w u) →
    Calls P f (dens E0 args).toArray w fun e w' => ∃ y, post y ∧ e = .returned (den0 (res y)) ∧ Ok 0 X w' (res y) ∧ Below w.heap.size w w'

section
variable {P : Program} {T : List (Nat × TI)} {XC X0 : Nat → Prop} {w0 : World} {b : Frame} {G : Act → List Item → World → Prop} {st : St} {E : Env} {a : Act} {w : World}

theorem Ok.scope0 {N : Nat} {X : Nat → Prop} {u : SV} (h : Ok N X w u) (hp : pure u = true) : Ok 0 X w u := by
  induction h with
  | v => exact .v _
  | p | own | q | x | y | ifc | m => simp [pure] at hp
  | f _ ih => exact .f fun u hu => ih u hu (List.all_eq_true.1 (by rw [← pures_all]; exact hp) u hu)
  | a _ ih => exact .a fun u hu => ih u hu (List.all_eq_true.1 (by rw [← pures_all]; exact hp) u hu)
  | t _ ih => exact .t fun u hu => ih u hu (List.all_eq_true.1 (by rw [← pures_all]; exact hp) u hu)
  | s hm hc h hq _ ih => exact .s hm hc h hq fun i hi u hu => ih i hi u hu (hq i hi u hu).1
  | e hs hX h hq _ ih => exact .e hs hX h hq fun u hu => ih u hu (hq u hu).1

/-- Nothing that was there turns: what a state tells still holds. -/
theorem Models.below (hM : Models XC X0 w0 st E a w) {w' : World} (hb : Below w.heap.size w w') : Models XC X0 w0 st E a w' := by
  have hs : w.heap.size ≤ w'.heap.size := hb.size
  have mv : ∀ u, Ok st.no (Ex XC E st.ob) w u → Ok st.no (Ex XC E st.ob) w' u := fun u hu => hu.move (Nat.le_refl _) hs fun b hlt hX => ⟨hX, hb.block b hlt⟩
  have hm := hM.mem
  exact ⟨⟨⟨hb.os.trans hm.fr.os, hb.tape.trans hm.fr.tape, hb.output.trans hm.fr.output, Nat.le_trans hm.fr.size hs, fun b hlt hX => (hb.block b (Nat.lt_of_lt_of_le hlt hm.fr.size)).trans (hm.fr.block b hlt hX)⟩,
    fun i o h => (hm.ob i o h).keep (hm.oko i o h) (hm.no i o h) (EnvEq.refl _ _) fun b hbk => hb.block b (hm.lt b ⟨i, o, h, hbk⟩).1,
    fun b h => ⟨Nat.lt_of_lt_of_le (hm.lt b h).1 hs, (hm.lt b h).2⟩, hm.ne, hm.no, fun i o h => (hm.oko i o h).move mv, hm.unk, hm.val⟩,
    hM.cur.move (Nat.le_refl _) (EnvEq.refl _ _) mv, fun s hs => (hM.sus s hs).move (Nat.le_refl _) (EnvEq.refl _ _) mv⟩
theorem Models.exlt (hM : Models XC X0 w0 st E a w) (hXC : ∀ b, XC b → b < w0.heap.size) : ∀ b, Ex XC E st.ob b → b < w.heap.size := fun b h =>
  h.elim (fun h => (hM.mem.lt b h).1) fun h => Nat.lt_of_lt_of_le (hXC b h) hM.mem.fr.size

/-- A call by its contract. -/
theorem sg_call (hT : TabOk P T) (hE : EqOk P T) (hG : Closed P b G) (hXC : ∀ b, XC b → b < w0.heap.size) {n : Nat} {todo t : List Item} {gd gd' : List (Nat × Bool)} {st st' : St} {f : Nat} {args : List SV} {d : Option Tmp}
    {Y : Type} {res : Y → SV} {post : Y → Prop} (hc : PureC P f args Y res post) (h : run T n todo gd st = .call f args d t gd' st') (hfd : freshd gd' d = true) (hk : ∀ y, post y → SG XC X0 w0 G t gd' (st'.put d (res y))) : SG XC X0 w0 G todo gd st := by
  refine run_ok hT hE hG n todo gd st ?_
  rw [h]
  refine ⟨hc.ent, fun E a w hM hgd hok => ⟨fun e w' => ∃ y, post y ∧ e = .returned (den0 (res y)) ∧ Ok 0 (Ex XC E st'.ob) w' (res y) ∧ Below w.heap.size w w', ?_, ?_⟩⟩
  · rw [dens_pure E args hc.pa]
    exact hc.calls _ w (hM.exlt hXC) fun u hu => (hok u hu).scope0 (pures_mem hc.pa u hu)
  · rintro e w' ⟨y, hy, rfl, ho, hbl⟩
    refine ⟨_, rfl, hk y hy E _ w' ((hM.below hbl).put d (u := res y) (ho.move (Nat.zero_le _) (Nat.le_refl _) fun b _ hX => ⟨hX, rfl⟩) ?_) (gd_put hgd hfd _)⟩
    exact (den_pure E _ (hc.pr y)).symm

theorem sg_br (hT : TabOk P T) (hE : EqOk P T) (hG : Closed P b G) {n : Nat} {todo : List Item} {gd : List (Nat × Bool)} {st : St} {c : Bool} {t1 t2 : List Item} {g1 g2 : List (Nat × Bool)} {s1 s2 : St}
    (h : run T n todo gd st = .br c t1 g1 s1 t2 g2 s2) (h1 : c = true → SG XC X0 w0 G t1 g1 s1) (h2 : c = false → SG XC X0 w0 G t2 g2 s2) : SG XC X0 w0 G todo gd st :=
  run_ok hT hE hG n todo gd st (by rw [h]; exact ⟨h1, h2⟩)
theorem sg_need (hT : TabOk P T) (hE : EqOk P T) (hG : Closed P b G) {n : Nat} {todo t : List Item} {gd gd' : List (Nat × Bool)} {st st' : St} {p : Prop}
    (h : run T n todo gd st = .need p t gd' st') (hp : p) (hk : SG XC X0 w0 G t gd' st') : SG XC X0 w0 G todo gd st :=
  run_ok hT hE hG n todo gd st (by rw [h]; exact ⟨hp, hk⟩)
theorem sg_at (hT : TabOk P T) (hE : EqOk P T) (hG : Closed P b G) {n : Nat} {todo t : List Item} {gd gd' : List (Nat × Bool)} {st st' : St}
    (h : run T n todo gd st = .at_ t gd' st') (hk : SG XC X0 w0 G t gd' st') : SG XC X0 w0 G todo gd st :=
  run_ok hT hE hG n todo gd st (by rw [h]; exact hk)
theorem sg_loop (hT : TabOk P T) (hE : EqOk P T) (hG : Closed P b G) {n : Nat} {todo : List Item} {gd : List (Nat × Bool)} {st st' : St} {c : Code} {k : List Item}
    (h : run T n todo gd st = .loop c k st') (hk : SG XC X0 w0 G (.code c :: .inLoop c :: k) [] st') : SG XC X0 w0 G todo gd st :=
  run_ok hT hE hG n todo gd st (by rw [h]; exact hk)

/-! other names, less is told -/
mutual
def ren (σ : Nat → Nat) : SV → SV
  | .v x => .v x
  | .p i off => .p (σ i) off
  | .a l => .a (rens σ l)
  | .t l => .t (rens σ l)
  | .s A n c k el => .s A n c k el
  | .e ad l => .e ad l
  | .own i => .own (σ i)
  | .q i ix k off => .q (σ i) ix k off
  | .f fn l => .f fn (rens σ l)
  | .y i => .y (σ i)
  | .ifc t u => .ifc t (ren σ u)
  | .m i => .m (σ i)
  | .x j => .x (σ j)
def rens (σ : Nat → Nat) : List SV → List SV
  | [] => []
  | u :: r => ren σ u :: rens σ r
end
theorem rens_map (σ : Nat → Nat) (l : List SV) : rens σ l = l.map (ren σ) := by
  induction l with
  | nil => rfl
  | cons u r ih => simp [rens, ih]
def Env.ren (E : Env) (σ : Nat → Nat) : Env := ⟨fun i => E.id (σ i), fun i => E.val (σ i), fun i => E.unk (σ i)⟩
mutual
theorem den_ren (E : Env) (σ : Nat → Nat) : ∀ u : SV, den E (ren σ u) = den (E.ren σ) u
  | .v x => rfl
  | .p i off => rfl
  | .a l => by simp only [Go.SE.ren, den, dens_ren E σ l]
  | .t l => by simp only [Go.SE.ren, den, dens_ren E σ l]
  | .s .. => rfl
  | .e .. => rfl
  | .own i => rfl
  | .q .. => rfl
  | .f fn l => by simp only [Go.SE.ren, den, dens_ren E σ l]
  | .y i => rfl
  | .ifc t u => by simp only [Go.SE.ren, den, den_ren E σ u]
  | .m i => rfl
  | .x j => rfl
theorem dens_ren (E : Env) (σ : Nat → Nat) : ∀ l : List SV, dens E (rens σ l) = dens (E.ren σ) l
  | [] => rfl
  | u :: r => by simp only [rens, dens, den_ren E σ u, dens_ren E σ r]
end
mutual
def scp (n : Nat) : SV → Bool
  | .p i _ => decide (i < n)
  | .own i => decide (i < n)
  | .q i _ _ _ => decide (i < n)
  | .x i => decide (i < n)
  | .y i => decide (i < n)
  | .ifc _ u => scp n u
  | .m i => decide (i < n)
  | .a l => scps n l
  | .t l => scps n l
  | .f _ l => scps n l
  | _ => true
def scps (n : Nat) : List SV → Bool
  | [] => true
  | u :: r => scp n u && scps n r
end
theorem one_ren (σ : Nat → Nat) (u : SV) : one (ren σ u) = one u := by cases u <;> rfl
mutual
theorem Ok.unren {N n : Nat} {X : Nat → Prop} {w : World} (σ : Nat → Nat) : ∀ u : SV, Ok N X w (ren σ u) → scp n u = true → Ok n X w u
  | .v z, _, _ => .v z
  | .p i off, _, h => .p _ (by simpa [scp] using h)
  | .own i, _, h => .own (by simpa [scp] using h)
  | .q i _ _ _, _, h => .q _ _ _ (by simpa [scp] using h)
  | .x i, _, h => .x (by simpa [scp] using h)
  | .y i, _, h => .y (by simpa [scp] using h)
  | .ifc ty u, hk, h => by
    simp only [ren] at hk
    cases hk with | ifc hk => exact .ifc (Ok.unren σ u hk h)
  | .m i, _, h => .m (by simpa [scp] using h)
  | .a l, hk, h => by
    simp only [ren] at hk
    cases hk with | a hk => exact .a (Ok.unrens σ l hk h)
  | .t l, hk, h => by
    simp only [ren] at hk
    cases hk with | t hk => exact .t (Ok.unrens σ l hk h)
  | .f fn l, hk, h => by
    simp only [ren] at hk
    cases hk with | f hk => exact .f (Ok.unrens σ l hk h)
  | .s .., hk, _ => (hk.scope0 rfl).move (Nat.zero_le _) (Nat.le_refl _) fun b _ hX => ⟨hX, rfl⟩
  | .e .., hk, _ => (hk.scope0 rfl).move (Nat.zero_le _) (Nat.le_refl _) fun b _ hX => ⟨hX, rfl⟩
theorem Ok.unrens {N n : Nat} {X : Nat → Prop} {w : World} (σ : Nat → Nat) : ∀ l : List SV, (∀ u ∈ rens σ l, Ok N X w u) → scps n l = true → ∀ u ∈ l, Ok n X w u
  | [], _, _ => by simp
  | u :: r, hk, h => by
    simp only [scps, Bool.and_eq_true] at h
    have h1 := Ok.unren (n := n) σ u (hk _ (by simp [rens])) h.1
    have h2 := Ok.unrens (n := n) σ r (fun v hv => hk v (by simp [rens, hv])) h.2
    intro v hv
    rcases List.mem_cons.1 hv with hvu | hv
    · rw [hvu]; exact h1
    · exact h2 v hv
end

/-- What of the first state is told by the second one, whose objects' names are σ's. -/
def subTm (σ : Nat → Nat) (n : Nat) : List (Nat × SV) → List (Nat × SV) → Prop
  | [], _ => True
  | (t, u) :: r, l => look l t = some (ren σ u) ∧ scp n u = true ∧ subTm σ n r l
def obSub (σ : Nat → Nat) (n : Nat) : Ob → Option Ob → Prop
  | .cells cs ty, some (.cells cs' ty') => cs' = rens σ cs ∧ ty' = ty ∧ scps n cs = true
  | .row e k m el, some (.row e' k' m' el') => e' = e ∧ k' = k ∧ m' = m ∧ ∀ j, j < m → el' j = el j
  | .mark, some .mark => True
  | .lp l r, some (.lp l' r') => l' = l ∧ r' = r
  | .mp kk es, some (.mp kk' es') => kk' = kk ∧ es' = es.map (fun x => (x.1, ren σ x.2)) ∧ (es.all fun x => scp n x.2) = true
  | .gone, some _ => True
  | _, _ => False
def subOb (σ : Nat → Nat) (n : Nat) : List (Nat × Ob) → List (Nat × Ob) → Prop
  | [], _ => True
  | (i, o) :: r, l => obSub σ n o (nth l (σ i)) ∧ i < n ∧ subOb σ n r l
def subSus (σ : Nat → Nat) (n : Nat) : List Sus → List Sus → Prop
  | [], _ => True
  | s :: r, s' :: r' => (s'.a = s.a ∧ s'.nt = s.nt ∧ s'.df = s.df.map σ ∧ (s.df.all fun i => decide (i < n)) = true ∧ subTm σ n s.tm s'.tm) ∧ subSus σ n r r'
  | _ :: _, [] => False
def nodupB (σ : Nat → Nat) : List (Nat × Ob) → Bool
  | [] => true
  | (i, _) :: r => (r.all fun x => σ x.1 != σ i) && nodupB σ r
theorem subTm_look {σ : Nat → Nat} {l1 l2 : List (Nat × SV)} {n : Nat} (h : subTm σ n l1 l2) {t : Nat} {u : SV} (hu : look l1 t = some u) : look l2 t = some (ren σ u) ∧ scp n u = true := by
  induction l1 with
  | nil => simp [look] at hu
  | cons x r ih =>
    obtain ⟨k, v⟩ := x
    simp only [look] at hu
    split at hu
    · rename_i he; subst he; simp at hu; subst hu; exact ⟨h.1, h.2.1⟩
    · exact ih h.2.2 hu
theorem subOb_nth {σ : Nat → Nat} {l1 l2 : List (Nat × Ob)} {n : Nat} (h : subOb σ n l1 l2) {i : Nat} {o : Ob} (ho : nth l1 i = some o) : obSub σ n o (nth l2 (σ i)) ∧ i < n := by
  induction l1 with
  | nil => simp [nth] at ho
  | cons x r ih =>
    obtain ⟨k, v⟩ := x
    simp only [nth] at ho
    split at ho
    · rename_i he; subst he; simp at ho; subst ho; exact ⟨h.1, h.2.1⟩
    · exact ih h.2.2 ho
theorem nth_mem {l : List (Nat × Ob)} {i : Nat} {o : Ob} (h : nth l i = some o) : (i, o) ∈ l := by
  induction l with
  | nil => simp [nth] at h
  | cons x r ih =>
    obtain ⟨k, v⟩ := x
    simp only [nth] at h
    split at h
    · rename_i he; subst he; simp at h; subst h; simp
    · exact List.mem_cons_of_mem _ (ih h)
theorem nodupB_inj {σ : Nat → Nat} {l : List (Nat × Ob)} (h : nodupB σ l = true) : ∀ {i j : Nat} {o o' : Ob}, (i, o) ∈ l → (j, o') ∈ l → σ i = σ j → i = j := by
  induction l with
  | nil => intro i j o o' h; simp at h
  | cons x r ih =>
    obtain ⟨k, v⟩ := x
    simp only [nodupB, Bool.and_eq_true, List.all_eq_true, bne_iff_ne, ne_eq] at h
    intro i j o o' h1 h2 he
    rcases List.mem_cons.1 h1 with e1 | h1 <;> rcases List.mem_cons.1 h2 with e2 | h2
    · simp at e1 e2; rw [e1.1, e2.1]
    · simp at e1; rw [e1.1] at he; exact absurd he.symm (h.1 _ h2)
    · simp at e2; rw [e2.1] at he; exact absurd he (h.1 _ h1)
    · exact ih h.2 h1 h2 he
theorem subSus_mem {σ : Nat → Nat} {n : Nat} {l1 l2 : List Sus} (h : subSus σ n l1 l2) {s : Sus} (hs : s ∈ l1) : ∃ s' ∈ l2, s'.a = s.a ∧ s'.nt = s.nt ∧ s'.df = s.df.map σ ∧ (s.df.all fun i => decide (i < n)) = true ∧ subTm σ n s.tm s'.tm := by
  induction l1 generalizing l2 with
  | nil => simp at hs
  | cons x r ih =>
    cases l2 with
    | nil => exact h.elim
    | cons y q =>
      rcases List.mem_cons.1 hs with rfl | hs
      · exact ⟨y, by simp, h.1⟩
      · obtain ⟨s', h1, h2⟩ := ih h.2 hs
        exact ⟨s', by simp [h1], h2⟩
theorem obSub_blk {σ : Nat → Nat} {n : Nat} {E : Env} {i : Nat} {o o' : Ob} (h : obSub σ n o (some o')) {b : Nat} (hb : blk (E.ren σ) i o = some b) : blk E (σ i) o' = some b := by
  cases o <;> cases o' <;> first | exact hb | exact h.elim | (simp [blk] at hb; done)
theorem Models.weaken {st st1 : St} (σ : Nat → Nat) (hM : Models XC X0 w0 st E a w) (hnt : st1.nt = st.nt) (ht : subTm σ st1.no st1.tm st.tm) (ho : subOb σ st1.no st1.ob st.ob) (hi : nodupB σ st1.ob = true) (hdf : st.df = st1.df.map σ) (hdl : (st1.df.all fun i => decide (i < st1.no)) = true) (hs : subSus σ st1.no st1.sus st.sus) :
    Models XC X0 w0 st1 (E.ren σ) a w := by
  have hob : ∀ i o, nth st1.ob i = some o → ∃ o', nth st.ob (σ i) = some o' ∧ obSub σ st1.no o (some o') ∧ i < st1.no := fun i o h => by
    obtain ⟨h1, h2⟩ := subOb_nth ho h
    cases hn : nth st.ob (σ i) with
    | none => rw [hn] at h1; cases o <;> exact h1.elim
    | some o' => exact ⟨o', rfl, by rw [← hn]; exact h1, h2⟩
  have hhas : ∀ b, Has (E.ren σ) st1.ob b → Has E st.ob b := fun b ⟨i, o, h, hb⟩ => by
    obtain ⟨o', h1, h2, _⟩ := hob i o h
    exact ⟨σ i, o', h1, obSub_blk h2 hb⟩
  have mvX : ∀ u, Ok st1.no (Ex XC E st.ob) w u → Ok st1.no (Ex XC (E.ren σ) st1.ob) w u := fun u hu =>
    hu.move (Nat.le_refl _) (Nat.le_refl _) fun b _ hX => ⟨fun h => hX (h.imp (hhas b) id), rfl⟩
  have mv : ∀ u, Ok st.no (Ex XC E st.ob) w (ren σ u) → scp st1.no u = true → Ok st1.no (Ex XC (E.ren σ) st1.ob) w u := fun u hu hs => mvX u (hu.unren σ u hs)
  have hm := hM.mem
  have fr : ∀ s s' : Sus, FrOk E w st.no (Ex XC E st.ob) s' → s'.a = s.a → s'.nt = s.nt → s'.df = s.df.map σ → (s.df.all fun i => decide (i < st1.no)) = true → subTm σ st1.no s.tm s'.tm → FrOk (E.ren σ) w st1.no (Ex XC (E.ren σ) st1.ob) s := fun s s' hf e1 e2 e3 e4 e5 => by
    refine ⟨by rw [← e1, ← e2]; exact hf.size, ?_, fun i hi => by simpa using List.all_eq_true.1 e4 i hi, fun t u hu hlt => ?_, fun t u hu => ?_⟩
    · rw [← e1, hf.defers, e3]
      simp only [marks, List.map_map]; rfl
    · rw [← e1, hf.tm t _ (subTm_look e5 hu).1 (by rw [e2]; exact hlt), den_ren]
    · exact mv u (hf.oks t _ (subTm_look e5 hu).1) (subTm_look e5 hu).2
  refine ⟨⟨hm.fr, fun i o h => ?_, fun b h => hm.lt b (hhas b h), fun i j o o' b h h' hb hb' => ?_, fun i o h => (hob i o h).elim fun _ h => h.2.2, fun i o h => ?_, fun j => hm.unk _, fun j => hm.val _⟩, fr (st1.cur a) (st.cur a) hM.cur rfl hnt.symm hdf hdl ht, fun s hs' => ?_⟩
  · obtain ⟨o', h1, h2, _⟩ := hob i o h
    have h3 := hm.ob _ _ h1
    have h4 := hm.oko _ _ h1
    cases o <;> cases o' <;> first | exact h2.elim | trivial | skip
    · obtain ⟨rfl, rfl, _⟩ := h2
      refine ⟨by rw [← dens_ren]; exact h3.1, fun u hu => ?_⟩
      rw [← one_ren σ u]
      exact h3.2 _ (by rw [rens_map]; exact List.mem_map.2 ⟨u, hu, rfl⟩)
    · obtain ⟨rfl, rfl, rfl, he⟩ := h2
      refine ⟨by rw [← flat_congr he]; exact h3.1, fun j hj => by rw [← he j hj]; exact h3.2.1 j hj, h3.2.2⟩
    · obtain ⟨rfl, rfl⟩ := h2
      exact h3
    · obtain ⟨rfl, rfl, _⟩ := h2
      obtain ⟨ents, clock, g1, g2, g3⟩ := h3
      refine ⟨ents, clock, g1, ?_, g3⟩
      rw [g2, List.map_map, List.map_map, List.map_map]
      exact List.map_congr_left fun x _ => by simp only [Function.comp, den_ren]
  · obtain ⟨p, h1, h2, _⟩ := hob i o h
    obtain ⟨p', h1', h2', _⟩ := hob j o' h'
    exact nodupB_inj hi (nth_mem h) (nth_mem h') (hm.ne _ _ _ _ b h1 h1' (obSub_blk h2 hb) (obSub_blk h2' hb'))
  · obtain ⟨o', h1, h2, _⟩ := hob i o h
    have h3 := hm.ob _ _ h1
    have h4 := hm.oko _ _ h1
    cases o <;> cases o' <;> first | exact h2.elim | trivial | skip
    · obtain ⟨rfl, rfl, h5⟩ := h2
      exact fun u hu => mvX u (Ok.unrens σ _ h4 h5 u hu)
    · obtain ⟨rfl, rfl, rfl, he⟩ := h2
      intro j hj u hu
      rw [← he j hj] at hu
      exact mvX u (((h4 j hj u hu).scope0 ((h3.2.1 j hj).2 u hu).2).move (Nat.zero_le _) (Nat.le_refl _) fun b _ hX => ⟨hX, rfl⟩)
    · obtain ⟨rfl, rfl, h5⟩ := h2
      exact fun x hx => mvX _ (Ok.unren σ _ (h4 (x.1, ren σ x.2) (List.mem_map.2 ⟨x, hx, rfl⟩)) (List.all_eq_true.1 h5 x hx))
  · obtain ⟨s', h1, e1, e2, e3, e4, e5⟩ := subSus_mem hs hs'
    exact fr s s' (hM.sus s' h1) e1 e2 e3 e4 e5
theorem sg_weaken {todo : List Item} {gd gd1 : List (Nat × Bool)} {st st1 : St} (σ : Nat → Nat) (h : SG XC X0 w0 G todo gd1 st1) (hg : gd1 = gd ∨ gd1 = []) (hnt : st1.nt = st.nt) (ht : subTm σ st1.no st1.tm st.tm) (ho : subOb σ st1.no st1.ob st.ob) (hi : nodupB σ st1.ob = true)
    (hdf : st.df = st1.df.map σ) (hdl : (st1.df.all fun i => decide (i < st1.no)) = true) (hs : subSus σ st1.no st1.sus st.sus) : SG XC X0 w0 G todo gd st :=
  fun E a w hM hgd => h _ a w (hM.weaken σ hnt ht ho hi hdf hdl hs) (by rcases hg with rfl | rfl; exact hgd; intro t b h; simp [lookb] at h)
/-- A loop, by an invariant. -/
theorem sg_inv {X : Type} (I : X → St) (Pr : X → Prop) (μ : X → Nat) {c : Code} {k : List Item} (hstep : ∀ x, Pr x → (∀ y, Pr y → μ y < μ x → SG XC X0 w0 G (.code c :: .inLoop c :: k) [] (I y)) → SG XC X0 w0 G (.code c :: .inLoop c :: k) [] (I x)) :
    ∀ x, Pr x → SG XC X0 w0 G (.code c :: .inLoop c :: k) [] (I x) := by
  have key : ∀ n x, μ x = n → Pr x → SG XC X0 w0 G (.code c :: .inLoop c :: k) [] (I x) := by
    intro n
    induction n using Nat.strongRecOn with
    | _ n ih =>
      intro x hx hp
      exact hstep x hp fun y hy hlt => ih (μ y) (by omega) y rfl hy
  exact fun x hp => key _ x rfl hp
end
end Go.SE
set_option linter.unusedVariables false
set_option linter.unusedSimpArgs false
namespace Go.SE
open Go.RowKit

def loadS (T : List (Nat × TI)) (st : St) (t : Nat) (x : SV) : Option SV :=
  match ty T t with
  | some ti =>
    match x with
    | .p i off =>
      match nth st.ob i with
      | some (.cells cs _) =>
        if ti.size ≤ (cs.drop off).length then
          if ti.agg then force ((cs.drop off).take ti.size) fun l' => some (.a l')
          else if ti.size = 1 then (cs.drop off)[0]? else none
        else none
      | _ => none
    | _ => none
  | none => none
def retS (T : List (Nat × TI)) (st : St) : List ResultVar → Option (List SV)
  | [] => some []
  | .tmp t :: r =>
    match ev st (.tmp t), retS T st r with
    | some u, some l => some (u :: l)
    | _, _ => none
  | .cell t ty :: r =>
    match ev st (.tmp t) with
    | some x => match loadS T st ty x, retS T st r with
      | some u, some l => some (u :: l)
      | _, _ => none
    | none => none
def retV : List SV → SV
  | [u] => u
  | l => .t l

mutual
/-- no memory is told of -/
def plain : SV → Bool
  | .v _ => true
  | .a l => plains l
  | .t l => plains l
  | _ => false
def plains : List SV → Bool
  | [] => true
  | u :: r => plain u && plains r
end
mutual
theorem plain_ok (N : Nat) (X : Nat → Prop) (w : World) : ∀ u : SV, plain u = true → Ok N X w u
  | .v x, _ => .v x
  | .a l, h => .a (plains_ok N X w l h)
  | .t l, h => .t (plains_ok N X w l h)
  | .p .., h => by simp [plain] at h
  | .s .., h => by simp [plain] at h
  | .e .., h => by simp [plain] at h
  | .own .., h => by simp [plain] at h
  | .q .., h => by simp [plain] at h
  | .f .., h => by simp [plain] at h
  | .x .., h => by simp [plain] at h
  | .y .., h => by simp [plain] at h
  | .ifc .., h => by simp [plain] at h
  | .m .., h => by simp [plain] at h
theorem plains_ok (N : Nat) (X : Nat → Prop) (w : World) : ∀ l : List SV, plains l = true → ∀ u ∈ l, Ok N X w u
  | [], _ => by simp
  | u :: r, h => by
    simp only [plains, Bool.and_eq_true] at h
    intro v hv
    rcases List.mem_cons.1 hv with hvu | hv
    · rw [hvu]; exact plain_ok N X w u h.1
    · exact plains_ok N X w r h.2 v hv
end

structure Ctx (P : Program) (T : List (Nat × TI)) : Prop where
  tab : TabOk P T
  eq : EqOk P T
  mixed : P.follows .mixedOrders = true

section
variable {P : Program} {T : List (Nat × TI)} {XC X0 : Nat → Prop} {w0 : World} {b : Frame} {G : Act → List Item → World → Prop} {st : St} {E : Env} {a : Act} {w : World}

theorem loadS_ok (hT : TabOk P T) (hM : Models XC X0 w0 st E a w) {t : Nat} {x u : SV} (h : loadS T st t x = some u) : (do loadVar t (← asAddr (den E x)) : Sem Value).run P w = .ok (den E u) w ∧ Ok st.no (Ex XC E st.ob) w u := by
  unfold loadS at h
  split at h
  · rename_i ti ht
    split at h
    · rename_i i off
      split at h
      · rename_i cs t' hn
        have hob := hM.mem.ob i _ hn
        have hok := hM.mem.oko i _ hn
        split at h
        · rename_i hm
          have key : ∀ u, (ti.agg = true ∧ u = .a ((cs.drop off).take ti.size) ∨ ti.agg = false ∧ ti.size = 1 ∧ (cs.drop off)[0]? = some u) → (do loadVar t (← asAddr (den E (.p i off))) : Sem Value).run P w = .ok (den E u) w := fun u hu => by
            have := load_cells hT ht (cells_at hob (off := off)) hm hu
            simp [asAddr, den, Result.andThen, this]
          split at h
          · rename_i ha
            rw [force_eq] at h
            simp at h; subst h
            exact ⟨key _ (.inl ⟨ha, rfl⟩), .a fun u hu => hok u (List.mem_of_mem_drop (List.mem_of_mem_take hu))⟩
          · rename_i ha
            split at h
            · rename_i h1
              exact ⟨key _ (.inr ⟨by simpa using ha, h1, h⟩), hok u (List.mem_of_mem_drop (List.mem_of_getElem? h))⟩
            · simp at h
        · simp at h
      · simp at h
    · simp at h
  · simp at h
def oneRes (P : Program) (tmps : Array Value) : ResultVar → Sem Value
  | .tmp t => Pure.pure (tmps.getD t undef)
  | .cell a t => do loadVar t (← asAddr (tmps.getD a undef))
theorem retS_ok (hT : TabOk P T) (hM : Models XC X0 w0 st E a w) : ∀ {rs : List ResultVar} {l : List SV}, retS T st rs = some l → (rs.mapM (oneRes P a.tmps)).run P w = .ok (dens E l) w ∧ ∀ u ∈ l, Ok st.no (Ex XC E st.ob) w u
  | [], l, h => by simp [retS] at h; subst h; exact ⟨rfl, by simp⟩
  | .tmp t :: r, l, h => by
    simp only [retS] at h
    split at h
    · rename_i u l' hu hl
      simp at h; subst h
      obtain ⟨h1, h2⟩ := ev_ok hM hu
      obtain ⟨h3, h4⟩ := retS_ok hT hM hl
      refine ⟨?_, fun v hv => ?_⟩
      · have : (oneRes P a.tmps (.tmp t)).run P w = .ok (den E u) w := by
          simp only [oneRes, Sem.run_pure]
          rw [← h1]; rfl
        simp only [List.mapM_cons, Sem.run_bind, this, Result.andThen, h3, Sem.run_pure, dens]
      · rcases List.mem_cons.1 hv with rfl | hv
        · exact h2
        · exact h4 _ hv
    · simp at h
  | .cell t ty :: r, l, h => by
    simp only [retS] at h
    split at h
    · rename_i x hx
      split at h
      · rename_i u l' hu hl
        simp at h; subst h
        obtain ⟨h1, h2⟩ := ev_ok hM hx
        obtain ⟨h5, h6⟩ := loadS_ok hT hM hu
        obtain ⟨h3, h4⟩ := retS_ok hT hM hl
        refine ⟨?_, fun v hv => ?_⟩
        · have : (oneRes P a.tmps (.cell t ty)).run P w = .ok (den E u) w := by
            have h1' : a.tmps.getD t undef = den E x := h1
            simp only [oneRes, h1']
            exact h5
          simp only [List.mapM_cons, Sem.run_bind, this, Result.andThen, h3, Sem.run_pure, dens]
        · rcases List.mem_cons.1 hv with rfl | hv
          · exact h6
          · exact h4 _ hv
      · simp at h
    · simp at h
theorem results_ok (hT : TabOk P T) (hM : Models XC X0 w0 st E a w) {fn : Func} {l : List SV} (h : retS T st fn.results.toList = some l) : (results fn a.tmps).run P w = .ok (den E (retV l)) w ∧ ∀ u ∈ l, Ok st.no (Ex XC E st.ob) w u := by
  obtain ⟨h1, h2⟩ := retS_ok hT hM h
  refine ⟨?_, h2⟩
  have hm : (fn.results.mapM (oneRes P a.tmps)).run P w = .ok (dens E l).toArray w := by
    rw [Array.mapM_eq_mapM_toList]
    simp only [Sem.run_map, h1, Result.andThen]
  have he : results fn a.tmps = (do let vs ← fn.results.mapM (oneRes P a.tmps); Pure.pure (if h : vs.size = 1 then vs[0] else .tuple vs)) := by
    unfold results
    congr 2
  rw [he]
  simp only [Sem.run_bind, hm, Result.andThen, Sem.run_pure]
  congr 1
  match l with
  | [] => rfl
  | [u] => simp [retV, dens]
  | u :: v :: r => simp [retV, den, dens]

def frm (f : Nat) : Frame := { (default : Frame) with fn := f, kind := .normal }
def rnd (l f : Nat) : Frame := { (default : Frame) with fn := f, kind := .normal, roundOf := some l }
def isEnd : List Item → Bool
  | [] => true
  | .code .ret :: _ => true
  | _ => false
/-- The marks are come to, and shut. -/
def shut : List Nat → List (Nat × Ob) → Option (List (Nat × Ob))
  | [], ob => some ob
  | i :: r, ob => match nth ob i with
    | some .mark => shut r (upd ob i .gone)
    | _ => none
theorem putObj_grown (w : World) (b : Nat) (o : Obj) : w.grownBy (w.putObj b o) (some b) :=
  ⟨rfl, rfl, rfl, by simp, fun k _ hk => World.putObj_heap_other fun e => hk (by rw [e])⟩
theorem shut_ok : ∀ (df : List Nat) (st : St) (E : Env) (a : Act) (w : World) (ob' : List (Nat × Ob)) (fr : Frame) (cs : List Frame), st.df = df → Models XC X0 w0 st E a w → shut df st.ob = some ob' → fr.mode = .returning → fr.defers = a.defers →
    ∃ w', Steps P (lone fr cs w) (lone { fr with defers := [] } cs w') ∧ Models XC X0 w0 { st with ob := ob', df := [] } E { a with defers := [] } w' := by
  intro df
  induction df with
  | nil =>
    intro st E a w ob' fr cs hdf hM h hm hd
    simp [shut] at h; subst h
    have hde : a.defers = [] := by have := hM.cur.defers; simp only [St.cur, hdf, marks, List.map_nil] at this; exact this
    have hfr : { fr with defers := [] } = fr := by cases fr; simp_all
    have ha : ({ a with defers := [] } : Act) = a := by cases a; simp_all
    have hst : ({ st with df := [] } : St) = st := by cases st; simp_all
    rw [hfr, ha]
    exact ⟨w, .refl _ _, by rw [show ({ st with ob := st.ob, df := [] } : St) = st from hst]; exact hM⟩
  | cons i r ih =>
    intro st E a w ob' fr cs hdf hM h hm hd
    simp only [shut] at h
    split at h
    · rename_i hn
      have hob : w.heap[E.id i]? = some (.deferred (some [])) := hM.mem.ob i _ hn
      have hde : a.defers = { target := .collected (E.id i), args := #[] } :: marks E r := by have := hM.cur.defers; simp only [St.cur, hdf, marks, List.map_cons] at this; exact this
      have hst := step_collected (P := P) (fr := fr) (cs := cs) (by rw [hm]; simp) (hd.trans hde) rfl (run_takeDeferred hob)
      obtain ⟨m, mv⟩ := hM.mem.set (o' := .gone) hn (fun b h => by simp [blk] at h) (putObj_grown w (E.id i) (.deferred none)) trivial trivial
      have hM' := hM.trans m (Nat.le_refl _) (EnvEq.refl _ _) mv
      have hdl : ∀ j ∈ r, j < st.no := fun j hj => hM.cur.dfl j (by simp only [St.cur, hdf]; exact List.mem_cons_of_mem _ hj)
      have hM2 : Models XC X0 w0 { st with ob := upd st.ob i .gone, df := r } E { a with defers := marks E r } (w.putObj (E.id i) (.deferred none)) :=
        ⟨hM'.mem, ⟨hM'.cur.size, rfl, hdl, hM'.cur.tm, hM'.cur.oks⟩, hM'.sus⟩
      obtain ⟨w', h1, h2⟩ := ih _ E _ _ ob' { fr with defers := [] ++ marks E r } cs rfl hM2 h hm rfl
      exact ⟨w', Steps.head hst h1, h2⟩
    · simp at h
theorem leave_ok (hT : TabOk P T) (hM : Models XC X0 w0 st E a w) {fn : Func} {l : List SV} {ob' : List (Nat × Ob)} {b : Frame} (hf : P.funcs[b.fn]? = some fn) (hk : b.kind = .normal) (hb : b.roundOf = none) {td : List Item} (hend : isEnd td = true) (hs : shut st.df st.ob = some ob')
    (hr : retS T { st with ob := ob', df := [] } fn.results.toList = some l) (cs : List Frame) :
    ∃ w' fr, Steps P (lone (b.atR a td) cs w) (lone fr cs w') ∧ fr.fn = b.fn ∧ fr.leaving P w' (.returned (den E (retV l))) ∧ Models XC X0 w0 { st with ob := ob', df := [] } E { a with defers := [] } w' ∧ ∀ u ∈ l, Ok st.no (Ex XC E ob') w' u := by
  have h1 : step P (lone (b.atR a td) cs w) = .next (lone { b.atR a td with mode := .returning } cs w) := by
    match td, hend with
    | [], _ => exact stepR_end hb
    | .code .ret :: k, _ => exact stepR_ret hb
  obtain ⟨w', h2, h3⟩ := shut_ok st.df st E a w ob' { b.atR a td with mode := .returning } cs rfl hM hs rfl rfl
  obtain ⟨h4, h5⟩ := results_ok hT h3 hr
  exact ⟨w', _, Steps.head h1 h2, rfl, ⟨rfl, rfl, hk, fn, hf, h4⟩, h3, h5⟩

def RR {Y : Type} (res : Y → SV) (post : Y → Prop) (XC : Nat → Prop) (w0 : World) (e : Ending) (w' : World) : Prop := ∃ y, post y ∧ e = .returned (den0 (res y)) ∧ Ok 0 XC w' (res y) ∧ Below w0.heap.size w0 w'
def QS (P : Program) (XC X0 : Nat → Prop) (w0 : World) (b : Frame) (up : List Frame) (fo : Nat) (R : Ending → World → Prop) (todo : List Item) (gd : List (Nat × Bool)) (st : St) : Prop :=
  (∀ b, XC b → b < w0.heap.size ∧ ¬ X0 b) → SG XC X0 w0 (GS P b up fo R) todo gd st
/-- What is to be shown of a function that makes fresh data alone: from here on it hands back 'res y' for some y of post. -/
abbrev PS (P : Program) (f : Nat) {Y : Type} (res : Y → SV) (post : Y → Prop) (XC : Nat → Prop) (w0 : World) (todo : List Item) (gd : List (Nat × Bool)) (st : St) : Prop :=
  QS P XC (fun _ => False) w0 (frm f) [] f (RR res post XC w0) todo gd st

def zipTm (k : Nat) : List SV → List (Nat × SV)
  | [] => []
  | u :: r => (k, u) :: zipTm (k + 1) r
theorem look_zip (l : List SV) (k t : Nat) : look (zipTm k l) t = if k ≤ t then l[t - k]? else none := by
  induction l generalizing k with
  | nil => simp [zipTm, look]
  | cons u r ih =>
    simp only [zipTm, look, ih]
    by_cases h : k = t
    · subst h; simp
    · by_cases h2 : k ≤ t
      · have : t - k = (t - (k + 1)) + 1 := by omega
        rw [if_neg h, if_pos (by omega), if_pos h2, this]; rfl
      · rw [if_neg h, if_neg (by omega), if_neg h2]
theorem enter_cur {fn : Func} {args : List SV} {N : Nat} {X : Nat → Prop} (hlen : args.length ≤ fn.ntmps) (hok : ∀ u ∈ args, Ok N X w u) :
    FrOk E w N X ⟨{ tmps := (dens E args).toArray ++ Array.replicate (fn.ntmps - args.length) undef, defers := [] }, zipTm 0 args, fn.ntmps, []⟩ := by
  have hl : (dens E args).length = args.length := by rw [dens_map]; simp
  refine ⟨by simp [hl]; omega, rfl, by simp, fun t u hu ht => ?_, fun t u hu => ?_⟩
  · rw [look_zip] at hu
    simp at hu
    have htl : t < args.length := (List.getElem?_eq_some_iff.1 hu).1
    rw [Array.getElem?_append_left (by simp [hl]; exact htl)]
    simp [dens_map, hu]
  · rw [look_zip] at hu
    simp at hu
    exact hok u (List.mem_of_getElem? hu)
theorem enter_frm {f : Nat} {fn : Func} {c : Code} {args : List SV} (hf : P.funcs[f]? = some fn) (hb : fn.body = some c) :
    Frame.enter P f (dens E args).toArray .normal = (frm f).atR { tmps := (dens E args).toArray ++ Array.replicate (fn.ntmps - args.length) undef, defers := [] } [.code c] := by
  have hl : (dens E args).length = args.length := by rw [dens_map]; simp
  simp [Frame.enter, Frame.atR, hf, hb, frm, hl]
  rfl

theorem pureC_intro {f : Nat} {fn : Func} {c : Code} {args : List SV} {Y : Type} {res : Y → SV} {post : Y → Prop} (hf : P.funcs[f]? = some fn) (hn : (fn.name == "runtime.NumGoroutine") = false) (hb : fn.body = some c) (hpa : pures args = true) (hpr : ∀ y, pure (res y) = true) (hlen : args.length ≤ fn.ntmps)
    (h : ∀ XC w0, PS P f res post XC w0 [.code c] [] { tm := zipTm 0 args, ob := [], nt := fn.ntmps, no := 0 }) : PureC P f args Y res post := by
  refine ⟨ent_of hf hn hb, hpa, hpr, fun X w hX hok => ?_⟩
  have mv : ∀ u, Ok 0 X w u → Ok 0 (Ex X E0 []) w u := fun u hu => hu.move (Nat.le_refl _) (Nat.le_refl _) fun b _ hX => ⟨fun h => hX (h.elim (fun ⟨i, o, h, _⟩ => by simp [nth] at h) id), rfl⟩
  have hM : Models X (fun _ => False) w { tm := zipTm 0 args, ob := [], nt := fn.ntmps, no := 0 } E0 { tmps := (dens E0 args).toArray ++ Array.replicate (fn.ntmps - args.length) undef, defers := [] } w :=
    ⟨⟨Fr.refl _ _, fun i o h => by simp [nth] at h, fun b hb => by obtain ⟨i, o, h, _⟩ := hb; simp [nth] at h, fun i j o o' b h => by simp [nth] at h, fun i o h => by simp [nth] at h, fun i o h => by simp [nth] at h, fun _ => rfl, fun _ => rfl⟩,
      enter_cur hlen fun u hu => mv u (hok u hu), by simp⟩
  have hg := h X w (fun b hb => ⟨hX b hb, id⟩) E0 _ w hM (fun t b h => by simp [lookb] at h)
  intro cs
  obtain ⟨e, w', fr, h1, h2, h3, h4⟩ := hg cs
  refine ⟨e, w', fr, h1, ?_, h3, h4⟩
  rw [enter_frm hf hb]
  exact h2

variable {up : List Frame} {fo : Nat} {R : Ending → World → Prop} {n : Nat} {todo t : List Item} {gd gd' : List (Nat × Bool)} {st' : St}

theorem p_run (C : Ctx P T) (h : (∀ b, XC b → b < w0.heap.size ∧ ¬ X0 b) → EvOk P XC X0 w0 (GS P b up fo R) (run T n todo gd st)) : QS P XC X0 w0 b up fo R todo gd st :=
  fun hXC => run_ok C.tab C.eq (gs_closed P b up fo R) n todo gd st (h hXC)
theorem p_call (C : Ctx P T) {g : Nat} {args : List SV} {d : Option Tmp} {Y2 : Type} {res2 : Y2 → SV} {post2 : Y2 → Prop} (hc : PureC P g args Y2 res2 post2) (h : run T n todo gd st = .call g args d t gd' st') (hfd : freshd gd' d = true)
    (hk : ∀ y, post2 y → QS P XC X0 w0 b up fo R t gd' (st'.put d (res2 y))) : QS P XC X0 w0 b up fo R todo gd st :=
  fun hXC => sg_call C.tab C.eq (gs_closed P b up fo R) (fun b hb => (hXC b hb).1) hc h hfd fun y hy => hk y hy hXC
theorem p_br (C : Ctx P T) {c : Bool} {t1 t2 : List Item} {g1 g2 : List (Nat × Bool)} {s1 s2 : St} (h : run T n todo gd st = .br c t1 g1 s1 t2 g2 s2)
    (h1 : c = true → QS P XC X0 w0 b up fo R t1 g1 s1) (h2 : c = false → QS P XC X0 w0 b up fo R t2 g2 s2) : QS P XC X0 w0 b up fo R todo gd st :=
  fun hXC => sg_br C.tab C.eq (gs_closed P b up fo R) h (fun e => h1 e hXC) (fun e => h2 e hXC)
theorem p_need (C : Ctx P T) {p : Prop} (h : run T n todo gd st = .need p t gd' st') (hp : p) (hk : QS P XC X0 w0 b up fo R t gd' st') : QS P XC X0 w0 b up fo R todo gd st :=
  fun hXC => sg_need C.tab C.eq (gs_closed P b up fo R) h hp (hk hXC)
theorem p_at (C : Ctx P T) (h : run T n todo gd st = .at_ t gd' st') (hk : QS P XC X0 w0 b up fo R t gd' st') : QS P XC X0 w0 b up fo R todo gd st :=
  fun hXC => sg_at C.tab C.eq (gs_closed P b up fo R) h (hk hXC)
theorem p_loop (C : Ctx P T) {c : Code} {k : List Item} (h : run T n todo gd st = .loop c k st') (hk : QS P XC X0 w0 b up fo R (.code c :: .inLoop c :: k) [] st') : QS P XC X0 w0 b up fo R todo gd st :=
  fun hXC => sg_loop C.tab C.eq (gs_closed P b up fo R) h (hk hXC)
theorem p_inv {X : Type} (I : X → St) (Pr : X → Prop) (μ : X → Nat) {c : Code} {k : List Item} (hstep : ∀ x, Pr x → (∀ y, Pr y → μ y < μ x → QS P XC X0 w0 b up fo R (.code c :: .inLoop c :: k) [] (I y)) → QS P XC X0 w0 b up fo R (.code c :: .inLoop c :: k) [] (I x)) :
    ∀ x, Pr x → QS P XC X0 w0 b up fo R (.code c :: .inLoop c :: k) [] (I x) :=
  fun x hp hXC => sg_inv I Pr μ (fun x hx ih => hstep x hx (fun y hy hlt _ => ih y hy hlt) hXC) x hp
theorem p_weaken {st1 : St} {gd1 : List (Nat × Bool)} (σ : Nat → Nat) (h : QS P XC X0 w0 b up fo R todo gd1 st1) (hg : gd1 = gd ∨ gd1 = []) (hnt : st1.nt = st.nt) (ht : subTm σ st1.no st1.tm st.tm) (ho : subOb σ st1.no st1.ob st.ob) (hi : nodupB σ st1.ob = true)
    (hdf : st.df = st1.df.map σ) (hdl : (st1.df.all fun i => decide (i < st1.no)) = true) (hs : subSus σ st1.no st1.sus st.sus) : QS P XC X0 w0 b up fo R todo gd st :=
  fun hXC => sg_weaken σ (h hXC) hg hnt ht ho hi hdf hdl hs
/-- The end. -/
theorem p_ret {f : Nat} {Y : Type} {res : Y → SV} {post : Y → Prop} (C : Ctx P T) {fn : Func} {l : List SV} {ob' : List (Nat × Ob)} (hf : P.funcs[f]? = some fn) (h : run T n todo gd st = .at_ t gd' st') (hend : isEnd t = true) (hs : shut st'.df st'.ob = some ob') (hr : retS T { st' with ob := ob', df := [] } fn.results.toList = some l) (y : Y) (hy : post y) (he : retV l = res y) (hp : pure (res y) = true) :
    PS P f res post XC w0 todo gd st := by
  refine p_at C h fun hXC => ?_
  intro E a w hM hgd cs
  obtain ⟨w', fr, h1, h2, h3, h4, h5⟩ := leave_ok C.tab hM (b := frm f) hf rfl rfl hend hs hr cs
  refine ⟨.returned (den E (retV l)), w', fr, ?_, h1, h2, h3⟩
  have hok : Ok st'.no (Ex XC E ob') w' (retV l) := by
    match l, h5 with
    | [], h5 => exact .t h5
    | [u], h5 => exact h5 u (by simp)
    | u :: v :: r, h5 => exact .t h5
  refine ⟨y, hy, ?_, ?_, ⟨h4.mem.fr.os, h4.mem.fr.tape, h4.mem.fr.output, h4.mem.fr.size, fun b hb => h4.mem.fr.block b hb id⟩⟩
  · rw [he, den_pure E _ hp]
  · rw [he] at hok
    exact (hok.scope0 hp).move (Nat.le_refl _) (Nat.le_refl _) fun b _ hX => ⟨fun h => hX (.inr h), rfl⟩

/-! calls that go on in the same store -/
/-- the operation that stands at the head, if its guard is met -/
def headOp (gd : List (Nat × Bool)) (ops : Array Oper) (i : Nat) : Option Oper :=
  match ops[i]? with
  | some o => match o.guard with
    | none => some o
    | some (j, want) => match ops[j]? with
      | some { dst := some t, .. } => match lookb gd t with
        | some b => match b == want with
          | true => some o
          | false => none
        | none => none
      | _ => none
  | none => none
theorem headOp_ok {gd : List (Nat × Bool)} {ops : Array Oper} {i : Nat} {o : Oper} (h : headOp gd ops i = some o) {a : Act} (hgd : GdOk gd a) : ops[i]? = some o ∧ Region.wanted o (yielded ops a.tmps) = true := by
  unfold headOp at h
  split at h
  · rename_i o' ho
    split at h
    · rename_i hg
      simp at h; subst h
      exact ⟨ho, wanted_none hg _⟩
    · rename_i j want hg
      split at h
      · rename_i t op_ ty_ pos_ after_ gu_ hj
        split at h
        · rename_i bb hbb
          have hy : yielded ops a.tmps j = some bb := by simp [yielded, hj, hgd t bb hbb]
          split at h
          · rename_i heq
            simp at h; subst h
            exact ⟨ho, by simp [Region.wanted, hg, hy]; simpa using heq⟩
          · simp at h
        · simp at h
      · simp at h
  · simp at h
theorem p_inline (C : Ctx P T) {ops : Array Oper} {i : Nat} {rest : List Nat} {k : List Item} {o : Oper} {g : Nat} {args : List SV} {fn : Func} {c : Code} (hf : P.funcs[g]? = some fn) (hn : (fn.name == "runtime.NumGoroutine") = false) (hb : fn.body = some c)
    (ho : headOp gd ops i = some o) (he : exec T st o = .call g args) (hlen : args.length ≤ fn.ntmps)
    (hk : ∀ ao : Act, GdOk gd ao → QS P XC X0 w0 (frm g) (b.atR ao (.inRegion ops (i :: rest) :: k) :: up) fo R [.code c] [] { tm := zipTm 0 args, ob := st.ob, nt := fn.ntmps, no := st.no, df := [], sus := ⟨ao, st.tm, st.nt, st.df⟩ :: st.sus }) :
    QS P XC X0 w0 b up fo R (.inRegion ops (i :: rest) :: k) gd st := by
  intro hXC E a w hM hgd cs
  have hx := exec_ok C.tab C.eq hM o
  rw [he] at hx
  obtain ⟨g1, g2⟩ := hx
  obtain ⟨h1, h2⟩ := headOp_ok ho hgd
  have hnd : ∀ c, o.op ≠ .defer c := fun c hc => by rw [exec_defer hc] at he; cases he
  have hr := g1 _ (ent_of hf hn hb _ _)
  have hg := stepGR_op (P := P) (b := b) (k := k) (cs := up ++ cs) (w := w) (rest := rest) h1 h2
  rw [Oper.semAt_eq _ _ _ hnd] at hg
  have henter : step P (lone (b.atR a (.inRegion ops (i :: rest) :: k)) (up ++ cs) w) = .next (lone (Frame.enter P g (dens E args).toArray .normal) (b.atR a (.inRegion ops (i :: rest) :: k) :: (up ++ cs)) w) :=
    step_lone_go (by rw [hg]; simp [stepG.apply, hr, Frame.atR])
  have hM' : Models XC X0 w0 { tm := zipTm 0 args, ob := st.ob, nt := fn.ntmps, no := st.no, df := [], sus := ⟨a, st.tm, st.nt, st.df⟩ :: st.sus } E { tmps := (dens E args).toArray ++ Array.replicate (fn.ntmps - args.length) undef, defers := [] } w :=
    ⟨hM.mem, enter_cur hlen g2, fun s hs => by
      rcases List.mem_cons.1 hs with rfl | hs
      · exact hM.cur
      · exact hM.sus s hs⟩
  obtain ⟨e, w', fr, q1, q2, q3⟩ := hk a hgd hXC E _ w hM' (fun t b h => by simp [lookb] at h) cs
  refine ⟨e, w', fr, q1, ?_, q3⟩
  rw [enter_frm hf hb] at henter
  exact Comes.of_steps (.one henter) q2
theorem retV_ok {N : Nat} {X : Nat → Prop} {l : List SV} (h : ∀ u ∈ l, Ok N X w u) : Ok N X w (retV l) := by
  match l, h with
  | [], h => exact .t h
  | [u], h => exact h u (by simp)
  | u :: v :: r, h => exact .t h
/-- Back out of a call that went on in the same store. -/
theorem p_pop (C : Ctx P T) {b2 : Frame} {ao : Act} {ops : Array Oper} {i : Nat} {rest : List Nat} {k : List Item} {o : Oper} {fn : Func} {l : List SV} {ob' : List (Nat × Ob)} {gd0 : List (Nat × Bool)} {tm : List (Nat × SV)} {nt : Nat} {df : List Nat} {sus : List Sus}
    (hf : P.funcs[b.fn]? = some fn) (hbk : b.kind = .normal) (hbr : b.roundOf = none) (h : run T n todo gd st = .at_ t gd' st') (hend : isEnd t = true) (hs : shut st'.df st'.ob = some ob') (hr : retS T { st' with ob := ob', df := [] } fn.results.toList = some l)
    (hsus : st'.sus = ⟨ao, tm, nt, df⟩ :: sus) (ho : ops[i]? = some o) (hgd0 : GdOk gd0 ao) (hfd : freshd gd0 o.dst = true)
    (hk : QS P XC X0 w0 b2 up fo R (.inRegion ops rest :: k) gd0 (({ tm := tm, ob := ob', nt := nt, no := st'.no, df := df, sus := sus } : St).put o.dst (retV l))) :
    QS P XC X0 w0 b (b2.atR ao (.inRegion ops (i :: rest) :: k) :: up) fo R todo gd st := by
  refine p_at C h fun hXC => ?_
  intro E a w hM hgd cs
  obtain ⟨w', fr, h1, h2, h3, h4, h5⟩ := leave_ok C.tab hM (b := b) hf hbk hbr hend hs hr (b2.atR ao (.inRegion ops (i :: rest) :: k) :: (up ++ cs))
  have hleave := step_leave_returned (c := b2.atR ao (.inRegion ops (i :: rest) :: k)) (cs := up ++ cs) h3
  have hfin : (b2.atR ao (.inRegion ops (i :: rest) :: k)).finish (den E (retV l)) = b2.atR (ao.put o.dst (den E (retV l))) (.inRegion ops rest :: k) := by rw [Frame.finish_atR, ho]; rfl
  rw [hfin] at hleave
  have hsu := h4.sus
  simp only [hsus] at hsu
  have hM' : Models XC X0 w0 { tm := tm, ob := ob', nt := nt, no := st'.no, df := df, sus := sus } E ao w' := ⟨h4.mem, hsu _ (List.mem_cons_self ..), fun s hs => hsu s (by simp [hs])⟩
  obtain ⟨e, w2, fr2, q1, q2, q3⟩ := hk hXC E _ w' (hM'.put o.dst (retV_ok h5) rfl) (gd_put hgd0 hfd _) cs
  exact ⟨e, w2, fr2, q1, Comes.of_steps (Steps.trans h1 (.one hleave)) q2, q3⟩

/-! ranges over functions -/
/-- What of a loop's record stays. -/
structure LoopIs (r : Loop) (f : Nat) (tmps : Array Value) (ps : Array Tmp) (as bd : Code) : Prop where
  fn : r.fn = f
  tmps : r.tmps = tmps
  params : r.params = ps
  assign : r.assign = as
  body : r.body = bd
theorem p_range (C : Ctx P T) {g : Operand} {ps : Array Tmp} {assign body : Code} {k : List Item} {gi : Nat} {caps : List SV} {fn : Func} {c : Code} (hb0 : b.roundOf = none) (hg : ev st g = some (.f (.func gi) caps)) (hf : P.funcs[gi]? = some fn) (hn : (fn.name == "runtime.NumGoroutine") = false) (hb : fn.body = some c) (hlen : caps.length + 1 ≤ fn.ntmps)
    (hk : ∀ (ao : Act) (l : Nat) (r : Loop), LoopIs r b.fn ao.tmps ps assign body → r.state = .ready → r.pending = none → QS P XC X0 w0 (frm gi) (b.atR ao (.inRangeFunc l :: k) :: up) fo R [.code c] [] { tm := zipTm 0 (.y (st.no + 1) :: caps), ob := (st.no + 1, .lp l r) :: (st.no, .mark) :: st.ob, nt := fn.ntmps, no := st.no + 2, df := [], sus := ⟨ao, st.tm, st.nt, st.no :: st.df⟩ :: st.sus }) :
    QS P XC X0 w0 b up fo R (.code (.rangeFunc g ps assign body) :: k) gd st := by
  intro hXC E a w hM hgd cs
  obtain ⟨e1, e2⟩ := ev_ok hM hg
  let r : Loop := { state := .ready, pending := none, fn := b.fn, tmps := a.tmps, params := ps, assign := assign, body := body, defers := w.heap.size }
  let w1 := (w.alloc (.deferred (some []))).alloc (.loop r)
  have he : (Instr.enterLoop b.fn a.tmps ps assign body b.roundOf).run P w = .ok (w.heap.size + 1, [{ target := .collected w.heap.size, args := #[] }]) w1 := by rw [hb0]; exact run_enterLoop_outer _ _ _ _ _
  have hargs : (dens E caps).toArray = (dens E caps).toArray := rfl
  have hent := ent_of hf hn hb
  have hstep := stepR_rangeFunc (P := P) (b := b) (a := a) (k := k) (cs := up ++ cs) (w := w) (g := g) (w₁' := w1) (w₂ := w1) (d := { target := .fn (.func gi) (dens E caps).toArray, args := #[.func (.yield (w.heap.size + 1)) #[] #[]] }) (f := gi) (args := (.func (.yield (w.heap.size + 1)) #[] #[] :: dens E caps).toArray) he
    (by
      have hv : (#[Operand.const (.func (.yield (w.heap.size + 1)) #[] #[])] : Array Operand).map a.eval = #[.func (.yield (w.heap.size + 1)) #[] #[]] := by simp [Act.eval]
      simp only [resolve, rangeCall, Sem.run_bind, Sem.run_pure, Result.andThen, hv, e1, den, Deferred.ofValue]
      rfl)
    (by simp only [invoke]; simpa using hent _ _)
  obtain ⟨m1, mv1⟩ := hM.mem.next (old := none) (row := none) (by simp) (World.grownBy_alloc w _ none) (setId_eq E st.no w.heap.size) hM.mem.unk hM.mem.val (o := .mark)
    (fun b hb => by simp [blk, Env.setId] at hb; subst hb; exact ⟨by simp, .inl (Nat.le_refl _)⟩) (by show _ = _; simp only [Env.setId, if_true]; exact heap_alloc_at _) trivial
  have hM1 := hM.trans m1 (by omega) (setId_eq _ _ _) mv1
  obtain ⟨m2, mv2⟩ := hM1.mem.next (old := none) (row := none) (by simp) (World.grownBy_alloc (w.alloc (.deferred (some []))) (.loop r) none) (setId_eq (E.setId st.no w.heap.size) (st.no + 1) (w.alloc (.deferred (some []))).heap.size) hM1.mem.unk hM1.mem.val (o := .lp (w.heap.size + 1) r)
    (fun b hb => by simp [blk, Env.setId] at hb; subst hb; exact ⟨by simp, .inl (by simp)⟩) ⟨by simp [Env.setId], by simp only [Env.setId, if_true]; exact heap_alloc_at _⟩ trivial
  have hM2 := hM1.trans m2 (by simp) (setId_eq _ _ _) mv2
  have hE2 : ((E.setId st.no w.heap.size).setId (st.no + 1) (w.alloc (.deferred (some []))).heap.size) = (E.setId st.no w.heap.size).setId (st.no + 1) (w.heap.size + 1) := by simp
  simp only [hE2] at hM2 mv2
  have heq : EnvEq st.no E ((E.setId st.no w.heap.size).setId (st.no + 1) (w.heap.size + 1)) := fun i hi => ⟨by simp only [Env.setId]; rw [if_neg (by omega), if_neg (by omega)], rfl, rfl⟩
  have hcap : ∀ u ∈ caps, Ok st.no (Ex XC E st.ob) w u := by cases e2 with | f h => exact h
  have hdc : dens E caps = dens ((E.setId st.no w.heap.size).setId (st.no + 1) (w.heap.size + 1)) caps := dens_env hcap heq
  have hid : ((E.setId st.no w.heap.size).setId (st.no + 1) (w.heap.size + 1)).id st.no = w.heap.size := by simp [Env.setId]
  have hid1 : ((E.setId st.no w.heap.size).setId (st.no + 1) (w.heap.size + 1)).id (st.no + 1) = w.heap.size + 1 := by simp [Env.setId]
  have hM3 : Models XC X0 w0 { tm := zipTm 0 (.y (st.no + 1) :: caps), ob := (st.no + 1, .lp (w.heap.size + 1) r) :: (st.no, .mark) :: st.ob, nt := fn.ntmps, no := st.no + 2, df := [], sus := ⟨{ a with defers := [{ target := .collected w.heap.size, args := #[] }] ++ a.defers }, st.tm, st.nt, st.no :: st.df⟩ :: st.sus }
      ((E.setId st.no w.heap.size).setId (st.no + 1) (w.heap.size + 1)) { tmps := (dens ((E.setId st.no w.heap.size).setId (st.no + 1) (w.heap.size + 1)) (.y (st.no + 1) :: caps)).toArray ++ Array.replicate (fn.ntmps - (SV.y (st.no + 1) :: caps).length) undef, defers := [] } w1 := by
    refine ⟨hM2.mem, enter_cur (by simpa using hlen) (fun u hu => ?_), fun s hs => ?_⟩
    · rcases List.mem_cons.1 hu with rfl | hu
      · exact .y (by show _ < st.no + 2; omega)
      · exact mv2 u (mv1 u (hcap u hu))
    · rcases List.mem_cons.1 hs with rfl | hs
      · have hc := hM2.cur
        refine ⟨hc.size, ?_, fun i hi => ?_, hc.tm, hc.oks⟩
        · have hd := hc.defers
          simp only [St.cur] at hd
          simp only [marks, List.map_cons, hid, List.singleton_append]
          rw [hd]; rfl
        · rcases List.mem_cons.1 hi with rfl | hi
          · show _ < st.no + 2; omega
          · exact hc.dfl i hi
      · exact hM2.sus s hs
  obtain ⟨e, w', fr, q1, q2, q3⟩ := hk { a with defers := [{ target := .collected w.heap.size, args := #[] }] ++ a.defers } (w.heap.size + 1) r ⟨rfl, rfl, rfl, rfl, rfl⟩ rfl rfl hXC _ _ w1 hM3 (fun t b h => by simp [lookb] at h) cs
  refine ⟨e, w', fr, q1, ?_, q3⟩
  have hent2 := enter_frm (P := P) (E := (E.setId st.no w.heap.size).setId (st.no + 1) (w.heap.size + 1)) (args := .y (st.no + 1) :: caps) hf hb
  rw [show dens ((E.setId st.no w.heap.size).setId (st.no + 1) (w.heap.size + 1)) (.y (st.no + 1) :: caps) = .func (.yield (w.heap.size + 1)) #[] #[] :: dens E caps by simp only [dens, den, hid1, hdc]] at hent2
  rw [hent2] at hstep
  rw [show dens ((E.setId st.no w.heap.size).setId (st.no + 1) (w.heap.size + 1)) (.y (st.no + 1) :: caps) = .func (.yield (w.heap.size + 1)) #[] #[] :: dens E caps by simp only [dens, den, hid1, hdc]] at q2
  exact Comes.of_steps (.one hstep) q2
end
end Go.SE
set_option linter.unusedVariables false
set_option linter.unusedSimpArgs false
namespace Go.SE
open Go.RowKit

section
variable {P : Program} {T : List (Nat × TI)} {XC X0 : Nat → Prop} {w0 : World} {b : Frame} {st : St} {E : Env} {a : Act} {w : World}
variable {up : List Frame} {fo : Nat} {R : Ending → World → Prop} {n : Nat} {todo t : List Item} {gd gd' : List (Nat × Bool)} {st' : St}

def roundTm : List Tmp → List SV → List (Nat × SV) → List (Nat × SV)
  | t :: ts, u :: us, tm => roundTm ts us ((t, u) :: tm)
  | _, _, tm => tm
theorem roundTm_ok {N : Nat} {X : Nat → Prop} : ∀ (ts : List Tmp) (us : List SV) (tmps : Array Value) (tm : List (Nat × SV)) (nt : Nat), (∀ u ∈ us, Ok N X w u) → FrOk E w N X ⟨{ tmps := tmps, defers := [] }, tm, nt, []⟩ →
    FrOk E w N X ⟨{ tmps := (ts.zip (dens E us)).foldl (fun tmps (t, a) => tmps.setIfInBounds t a) tmps, defers := [] }, roundTm ts us tm, nt, []⟩
  | [], _, tmps, tm, nt, _, h => by simpa [roundTm] using h
  | _ :: _, [], tmps, tm, nt, _, h => by simpa [roundTm, dens] using h
  | t :: ts, u :: us, tmps, tm, nt, hu, h => by
    simp only [roundTm, dens, List.zip_cons_cons, List.foldl_cons]
    refine roundTm_ok ts us _ _ nt (fun v hv => hu v (by simp [hv])) ⟨by simpa using h.size, rfl, by simp, fun t' x hx ht => ?_, fun t' x hx => ?_⟩
    · simp only [look] at hx ht
      simp only [Array.getElem?_setIfInBounds]
      split at hx
      · rename_i he
        subst he
        have := h.size
        simp at this
        simp at hx
        subst hx
        simp [this, ht]
      · rename_i he
        rw [if_neg he]
        exact h.tm t' x hx ht
    · simp only [look] at hx
      split at hx
      · simp at hx; subst hx; exact hu _ (by simp)
      · exact h.oks t' x hx
/-- yield: a round. -/
theorem p_yield (C : Ctx P T) {ops : Array Oper} {i : Nat} {rest : List Nat} {k : List Item} {o : Oper} {j l : Nat} {r : Loop} {args : List SV} {ao : Act} {tm : List (Nat × SV)} {nt : Nat} {df : List Nat} {sus : List Sus} {f : Nat} {ps : Array Tmp} {as bd : Code}
    (hL : LoopIs r f ao.tmps ps as bd) (ho : headOp gd ops i = some o) (he : exec T st o = .yield j args) (hn : nth st.ob j = some (.lp l r)) (hlen : args.length = ps.size) (hsus : st.sus = ⟨ao, tm, nt, df⟩ :: sus)
    (hk : ∀ ai : Act, GdOk gd ai → QS P XC X0 w0 (rnd l f) (b.atR ai (.inRegion ops (i :: rest) :: k) :: up) fo R [.code as, .beginRound, .code bd] [] { tm := roundTm ps.toList args tm, ob := st.ob, nt := nt, no := st.no, df := [], sus := ⟨ai, st.tm, st.nt, st.df⟩ :: st.sus }) :
    QS P XC X0 w0 b up fo R (.inRegion ops (i :: rest) :: k) gd st := by
  obtain ⟨hf, hr, rfl, rfl, rfl⟩ := hL
  rw [← hf] at hk
  clear hf
  intro hXC E a w hM hgd cs
  have hx := exec_ok C.tab C.eq hM o
  rw [he] at hx
  obtain ⟨g1, g2⟩ := hx
  obtain ⟨h1, h2⟩ := headOp_ok ho hgd
  have hnd : ∀ c, o.op ≠ .defer c := fun c hc => by rw [exec_defer hc] at he; cases he
  obtain ⟨hid, hob⟩ := hM.mem.ob j _ hn
  have hy := run_yield (P := P) (args := (dens E args).toArray) hob (by simp [dens_map, hlen])
  have hrun := g1 _ hy
  rw [hid] at hrun
  have hg := stepGR_op (P := P) (b := b) (k := k) (cs := up ++ cs) (w := w) (rest := rest) h1 h2
  rw [Oper.semAt_eq _ _ _ hnd] at hg
  have hf0 : (r.params.zip (dens E args).toArray).foldl (fun tmps (t, a) => tmps.setIfInBounds t a) r.tmps = (r.params.toList.zip (dens E args)).foldl (fun tmps (t, a) => tmps.setIfInBounds t a) ao.tmps := by
    rw [← Array.foldl_toList, Array.toList_zip, hr]
  rw [hf0] at hrun
  have hround : ∀ tmps : Array Value, Frame.round l r.fn tmps r.assign r.body .normal = (rnd l r.fn).atR { tmps := tmps, defers := [] } [.code r.assign, .beginRound, .code r.body] := fun tmps => by
    simp [Frame.round, Frame.atR, rnd]
  have henter : step P (lone (b.atR a (.inRegion ops (i :: rest) :: k)) (up ++ cs) w) = .next (lone (Frame.round l r.fn ((r.params.toList.zip (dens E args)).foldl (fun tmps (t, a) => tmps.setIfInBounds t a) ao.tmps) r.assign r.body .normal) (b.atR a (.inRegion ops (i :: rest) :: k) :: (up ++ cs)) w) :=
    step_lone_go (by rw [hg]; simp [stepG.apply, hrun, Frame.atR])
  have hao := hM.sus ⟨ao, tm, nt, df⟩ (by rw [hsus]; exact List.mem_cons_self ..)
  have hM' : Models XC X0 w0 { tm := roundTm r.params.toList args tm, ob := st.ob, nt := nt, no := st.no, df := [], sus := ⟨a, st.tm, st.nt, st.df⟩ :: st.sus } E { tmps := (r.params.toList.zip (dens E args)).foldl (fun tmps (t, a) => tmps.setIfInBounds t a) ao.tmps, defers := [] } w :=
    ⟨hM.mem, roundTm_ok _ _ _ _ _ g2 ⟨hao.size, rfl, by simp, hao.tm, hao.oks⟩, fun s hs => by
      rcases List.mem_cons.1 hs with rfl | hs
      · exact hM.cur
      · exact hM.sus s hs⟩
  obtain ⟨e, w', fr, q1, q2, q3⟩ := hk a hgd hXC E _ w hM' (fun t b h => by simp [lookb] at h) cs
  refine ⟨e, w', fr, q1, ?_, q3⟩
  rw [hround] at henter
  exact Comes.of_steps (.one henter) q2
/-- A round begins. -/
theorem p_begin (j : Nat) {l f : Nat} {r : Loop} {k : List Item} (hn : nth st.ob j = some (.lp l r)) (hr : r.state = .ready)
    (hk : ∀ r' : Loop, r'.state = .busy → r'.pending = r.pending → (∀ {f t ps as bd}, LoopIs r f t ps as bd → LoopIs r' f t ps as bd) → QS P XC X0 w0 (rnd l f) up fo R k [] { st with ob := upd st.ob j (.lp l r') }) : QS P XC X0 w0 (rnd l f) up fo R (.beginRound :: k) gd st := by
  intro hXC E a w hM hgd cs
  obtain ⟨hid, hob⟩ := hM.mem.ob j _ hn
  rw [hid] at hob
  have hst := stepR_beginRound (P := P) (b := rnd l f) (a := a) (k := k) (cs := up ++ cs) (w := w) rfl (run_beginRound hob hr)
  obtain ⟨m, mv⟩ := hM.mem.set (o' := .lp l { r with state := .busy }) hn (fun b h => h) (w' := w.putObj l (.loop { r with state := .busy })) (by simp only [blk, hid]; exact putObj_grown w l _) ⟨hid, by rw [hid]; exact World.putObj_heap_same (Array.getElem?_eq_some_iff.1 hob).1⟩ trivial
  obtain ⟨e, w', fr, q1, q2, q3⟩ := hk { r with state := .busy } rfl rfl (fun h => ⟨h.fn, h.tmps, h.params, h.assign, h.body⟩) hXC E a _ (hM.trans m (Nat.le_refl _) (EnvEq.refl _ _) mv) (fun t b h => by simp [lookb] at h) cs
  exact ⟨e, w', fr, q1, Comes.of_steps (.one hst) q2, q3⟩
def roundJump : List Item → Option (Option Code)
  | [] => some none
  | .code .ret :: _ => some (some .ret)
  | .code (.exit id) :: k => match exitTo id k with
    | none => some (some (.exit id))
    | some _ => none
  | _ => none
/-- A round ends. -/
theorem p_rend (j : Nat) {l f : Nat} {r : Loop} {b2 : Frame} {ai : Act} {ops : Array Oper} {i : Nat} {rest : List Nat} {k : List Item} {o : Oper} {jump : Option Code} {gd0 : List (Nat × Bool)} {tm : List (Nat × SV)} {nt : Nat} {df : List Nat} {sus : List Sus}
    (hj : roundJump todo = some jump) (hn : nth st.ob j = some (.lp l r)) (hsus : st.sus = ⟨ai, tm, nt, df⟩ :: sus) (ho : ops[i]? = some o) (hgd0 : GdOk gd0 ai) (hfd : freshd gd0 o.dst = true)
    (hk : ∀ r' : Loop, r'.state = (if jump.isNone then .ready else .done) → r'.pending = jump → (∀ {f t ps as bd}, LoopIs r f t ps as bd → LoopIs r' f t ps as bd) → QS P XC X0 w0 b2 up fo R (.inRegion ops rest :: k) gd0 (({ tm := tm, ob := upd st.ob j (.lp l r'), nt := nt, no := st.no, df := df, sus := sus } : St).put o.dst (.v (.bool jump.isNone)))) :
    QS P XC X0 w0 (rnd l f) (b2.atR ai (.inRegion ops (i :: rest) :: k) :: up) fo R todo gd st := by
  intro hXC E a w hM hgd cs
  obtain ⟨hid, hob⟩ := hM.mem.ob j _ hn
  rw [hid] at hob
  have hend := run_endRound (P := P) jump hob
  have hst : step P (lone ((rnd l f).atR a todo) ((b2.atR ai (.inRegion ops (i :: rest) :: k) :: up) ++ cs) w) = .next (lone ((b2.atR ai (.inRegion ops (i :: rest) :: k)).finish (.bool jump.isNone)) (up ++ cs) (w.putObj l (.loop { r with state := if jump.isNone then .ready else .done, pending := jump }))) := by
    unfold roundJump at hj
    split at hj
    · simp at hj; subst hj; exact stepR_round_end rfl rfl hend
    · simp at hj; subst hj; exact stepR_round_ret rfl rfl hend
    · split at hj
      · rename_i hx
        simp at hj; subst hj; exact stepR_round_exit rfl rfl hx hend
      · simp at hj
    · simp at hj
  have hfin : (b2.atR ai (.inRegion ops (i :: rest) :: k)).finish (.bool jump.isNone) = b2.atR (ai.put o.dst (.bool jump.isNone)) (.inRegion ops rest :: k) := by rw [Frame.finish_atR, ho]; rfl
  rw [hfin] at hst
  obtain ⟨m, mv⟩ := hM.mem.set (o' := .lp l { r with state := if jump.isNone then .ready else .done, pending := jump }) hn (fun b h => h) (w' := w.putObj l (.loop { r with state := if jump.isNone then .ready else .done, pending := jump })) (by simp only [blk, hid]; exact putObj_grown w l _) ⟨hid, by rw [hid]; exact World.putObj_heap_same (Array.getElem?_eq_some_iff.1 hob).1⟩ trivial
  have hM1 := hM.trans m (Nat.le_refl _) (EnvEq.refl _ _) mv
  have hsu := hM1.sus
  simp only [hsus] at hsu
  have hM' : Models XC X0 w0 { tm := tm, ob := upd st.ob j (.lp l { r with state := if jump.isNone then .ready else .done, pending := jump }), nt := nt, no := st.no, df := df, sus := sus } E ai _ := ⟨hM1.mem, hsu _ (List.mem_cons_self ..), fun s hs => hsu s (by simp [hs])⟩
  obtain ⟨e, w2, fr2, q1, q2, q3⟩ := hk { r with state := if jump.isNone then .ready else .done, pending := jump } rfl rfl (fun h => ⟨h.fn, h.tmps, h.params, h.assign, h.body⟩) hXC E _ _ (hM'.put o.dst (u := .v (.bool jump.isNone)) (.v _) rfl) (gd_put hgd0 hfd _) cs
  exact ⟨e, w2, fr2, q1, Comes.of_steps (.one hst) q2, q3⟩
/-- The function that was ranged over ends. -/
theorem p_popr (C : Ctx P T) (j : Nat) {b2 : Frame} {ao : Act} {l : Nat} {r : Loop} {k : List Item} {fn : Func} {us : List SV} {ob' : List (Nat × Ob)} {tm : List (Nat × SV)} {nt : Nat} {df : List Nat} {sus : List Sus}
    (hf : P.funcs[b.fn]? = some fn) (hbk : b.kind = .normal) (hbr : b.roundOf = none) (h : run T n todo gd st = .at_ t gd' st') (hend : isEnd t = true) (hs : shut st'.df st'.ob = some ob') (hr : retS T { st' with ob := ob', df := [] } fn.results.toList = some us)
    (hsus : st'.sus = ⟨ao, tm, nt, df⟩ :: sus) (hn : nth ob' j = some (.lp l r)) (hb : r.state ≠ .busy) {jump : Option Code} (hpe : r.pending = jump)
    (hk : QS P XC X0 w0 b2 up fo R ((jump.map Item.code).toList ++ k) [] { tm := tm, ob := upd ob' j .gone, nt := nt, no := st'.no, df := df, sus := sus }) :
    QS P XC X0 w0 b (b2.atR ao (.inRangeFunc l :: k) :: up) fo R todo gd st := by
  subst hpe
  refine p_at C h fun hXC => ?_
  intro E a w hM hgd cs
  obtain ⟨w', fr, h1, h2, h3, h4, h5⟩ := leave_ok C.tab hM (b := b) hf hbk hbr hend hs hr (b2.atR ao (.inRangeFunc l :: k) :: (up ++ cs))
  have hleave := step_leave_returned (c := b2.atR ao (.inRangeFunc l :: k)) (cs := up ++ cs) h3
  rw [finish_atR_inRangeFunc] at hleave
  obtain ⟨hid, hob⟩ := h4.mem.ob j _ hn
  rw [hid] at hob
  have hst := stepR_endRangeFunc (P := P) (b := b2) (a := ao) (k := k) (cs := up ++ cs) (run_endLoop (P := P) hob hb)
  obtain ⟨m, mv⟩ := h4.mem.set (o' := .gone) hn (fun b h => by simp [blk] at h) (w' := w'.putObj l (.loop { r with state := .exhausted })) (by simp only [blk, hid]; exact putObj_grown w' l _) trivial trivial
  have hM1 := h4.trans m (Nat.le_refl _) (EnvEq.refl _ _) mv
  have hsu := hM1.sus
  simp only [hsus] at hsu
  have hM' : Models XC X0 w0 { tm := tm, ob := upd ob' j .gone, nt := nt, no := st'.no, df := df, sus := sus } E ao _ := ⟨hM1.mem, hsu _ (List.mem_cons_self ..), fun s hs => hsu s (by simp [hs])⟩
  obtain ⟨e, w2, fr2, q1, q2, q3⟩ := hk hXC E _ _ hM' (fun t b h => by simp [lookb] at h) cs
  exact ⟨e, w2, fr2, q1, Comes.of_steps (Steps.trans h1 (Steps.head hleave (.one hst))) q2, q3⟩

/-! a row that is only read from here on -/
mutual
def frz (i : Nat) (x : SV) : SV → SV
  | .own j => if j = i then x else .own j
  | .a l => .a (frzs i x l)
  | .t l => .t (frzs i x l)
  | .f fn l => .f fn (frzs i x l)
  | .v z => .v z
  | .p i off => .p i off
  | .s A n c k el => .s A n c k el
  | .e ad l => .e ad l
  | .q i ix k off => .q i ix k off
  | .y i => .y i
  | .ifc t u => .ifc t (frz i x u)
  | .m j => .m j
  | .x j => .x j
def frzs (i : Nat) (x : SV) : List SV → List SV
  | [] => []
  | u :: r => frz i x u :: frzs i x r
end
mutual
theorem den_frz {E : Env} {i : Nat} {x : SV} (h : den E x = E.val i) : ∀ u : SV, den E (frz i x u) = den E u
  | .own j => by
    simp only [frz]
    split
    · rename_i e; subst e; exact h
    · rfl
  | .a l => by simp only [frz, den, dens_frz h l]
  | .t l => by simp only [frz, den, dens_frz h l]
  | .f fn l => by simp only [frz, den, dens_frz h l]
  | .v _ => rfl
  | .p .. => rfl
  | .s .. => rfl
  | .e .. => rfl
  | .q .. => rfl
  | .y _ => rfl
  | .ifc t u => by simp only [frz, den, den_frz h u]
  | .m _ => rfl
  | .x _ => rfl
theorem dens_frz {E : Env} {i : Nat} {x : SV} (h : den E x = E.val i) : ∀ l : List SV, dens E (frzs i x l) = dens E l
  | [] => rfl
  | u :: r => by simp only [frzs, dens, den_frz h u, dens_frz h r]
end
theorem frzs_map (i : Nat) (x : SV) (l : List SV) : frzs i x l = l.map (frz i x) := by
  induction l with
  | nil => rfl
  | cons u r ih => simp [frzs, ih]
theorem ok_frz {N : Nat} {X : Nat → Prop} {i : Nat} {x u : SV} (hx : Ok N X w x) (h : Ok N X w u) : Ok N X w (frz i x u) := by
  induction h with
  | own hi => simp only [frz]; split; exact hx; exact .own hi
  | v => exact .v _
  | p off hi => exact .p _ hi
  | q ix k off hi => exact .q _ _ _ hi
  | x hj => exact .x hj
  | y hj => exact .y hj
  | ifc _ ih => simp only [frz]; exact .ifc ih
  | m hj => exact .m hj
  | a _ ih => simp only [frz, frzs_map]; exact .a fun u hu => by obtain ⟨y, hy, rfl⟩ := List.mem_map.1 hu; exact ih y hy
  | t _ ih => simp only [frz, frzs_map]; exact .t fun u hu => by obtain ⟨y, hy, rfl⟩ := List.mem_map.1 hu; exact ih y hy
  | f _ ih => simp only [frz, frzs_map]; exact .f fun u hu => by obtain ⟨y, hy, rfl⟩ := List.mem_map.1 hu; exact ih y hy
  | s hm hc hq hp ho => exact .s hm hc hq hp ho
  | e hs hX hc hp ho => exact .e hs hX hc hp ho
theorem one_frz {i : Nat} {x : SV} (hx : one x = true) (u : SV) (h : one u = true) : one (frz i x u) = true := by
  cases u <;> simp only [frz] <;> first | exact h | skip
  split
  · exact hx
  · rfl
def frzTm (i : Nat) (x : SV) : List (Nat × SV) → List (Nat × SV)
  | [] => []
  | (t, u) :: r => (t, frz i x u) :: frzTm i x r
def frzOb (i : Nat) (x : SV) : List (Nat × Ob) → List (Nat × Ob)
  | [] => []
  | (j, .cells cs ty) :: r => (j, .cells (frzs i x cs) ty) :: frzOb i x r
  | (j, .mp kk es) :: r => (j, .mp kk (es.map fun y => (y.1, frz i x y.2))) :: frzOb i x r
  | (j, o) :: r => (j, o) :: frzOb i x r
def frzSus (i : Nat) (x : SV) : List Sus → List Sus
  | [] => []
  | s :: r => ⟨s.a, frzTm i x s.tm, s.nt, s.df⟩ :: frzSus i x r
def St.frz (st : St) (i : Nat) (x : SV) : St := { tm := frzTm i x st.tm, ob := frzOb i x (upd st.ob i .gone), nt := st.nt, no := st.no, df := st.df, sus := frzSus i x st.sus }
theorem look_frz (i : Nat) (x : SV) (l : List (Nat × SV)) (t : Nat) : look (frzTm i x l) t = (look l t).map (frz i x) := by
  induction l with
  | nil => rfl
  | cons y r ih =>
    obtain ⟨k, u⟩ := y
    simp only [frzTm, look]
    split
    · rfl
    · exact ih
def frzO (i : Nat) (x : SV) : Ob → Ob
  | .cells cs ty => .cells (frzs i x cs) ty
  | .mp kk es => .mp kk (es.map fun y => (y.1, frz i x y.2))
  | o => o
theorem nth_frz (i : Nat) (x : SV) (l : List (Nat × Ob)) (j : Nat) : nth (frzOb i x l) j = (nth l j).map (frzO i x) := by
  induction l with
  | nil => rfl
  | cons y r ih =>
    obtain ⟨k, o⟩ := y
    cases o <;> simp only [frzOb, nth] <;> split <;> first | rfl | exact ih
theorem blk_frz (E : Env) (i : Nat) (x : SV) (j : Nat) (o : Ob) : blk E j (frzO i x o) = blk E j o := by cases o <;> rfl
/-- Names for the same values: what a state tells holds with them too. -/
theorem Models.frz (hM : Models XC X0 w0 st E a w) {i : Nat} {x : SV} {o : Ob} (hn : nth st.ob i = some o) (h1 : den E x = E.val i) (h2 : one x = true) (h3 : Ok st.no (Ex XC E (upd st.ob i .gone)) w x) : Models XC X0 w0 (st.frz i x) E a w := by
  obtain ⟨m, mv⟩ := hM.mem.set (o' := .gone) hn (fun b h => by simp [blk] at h) (w' := w) ⟨rfl, rfl, rfl, Nat.le_refl _, fun _ _ _ => rfl⟩ trivial trivial
  have hM1 := hM.trans m (Nat.le_refl _) (EnvEq.refl _ _) mv
  have back : ∀ j o', nth (frzOb i x (upd st.ob i .gone)) j = some o' → ∃ o2, nth (upd st.ob i .gone) j = some o2 ∧ o' = frzO i x o2 := fun j o' h => by
    rw [nth_frz] at h
    cases hn : nth (upd st.ob i .gone) j with
    | none => simp [hn] at h
    | some o2 => simp [hn] at h; exact ⟨o2, rfl, h.symm⟩
  have hhas : ∀ b, Has E (frzOb i x (upd st.ob i .gone)) b → Has E (upd st.ob i .gone) b := fun b ⟨j, o', h, hb⟩ => by
    obtain ⟨o2, g1, rfl⟩ := back j o' h
    exact ⟨j, o2, g1, by rwa [blk_frz] at hb⟩
  have mv2 : ∀ u, Ok st.no (Ex XC E (upd st.ob i .gone)) w u → Ok st.no (Ex XC E (frzOb i x (upd st.ob i .gone))) w u := fun u hu =>
    hu.move (Nat.le_refl _) (Nat.le_refl _) fun b _ hX => ⟨fun h => hX (h.imp (hhas b) id), rfl⟩
  have mv3 : ∀ u, Ok st.no (Ex XC E (upd st.ob i .gone)) w u → Ok st.no (Ex XC E (frzOb i x (upd st.ob i .gone))) w (SE.frz i x u) := fun u hu => mv2 _ (ok_frz h3 hu)
  have frk : ∀ s : Sus, FrOk E w st.no (Ex XC E (upd st.ob i .gone)) s → FrOk E w st.no (Ex XC E (frzOb i x (upd st.ob i .gone))) ⟨s.a, frzTm i x s.tm, s.nt, s.df⟩ := fun s hs => by
    refine ⟨hs.size, hs.defers, hs.dfl, fun t u hu ht => ?_, fun t u hu => ?_⟩
    · simp only [look_frz] at hu
      cases hl : look s.tm t with
      | none => simp [hl] at hu
      | some u' => simp [hl] at hu; subst hu; rw [den_frz h1]; exact hs.tm t u' hl ht
    · simp only [look_frz] at hu
      cases hl : look s.tm t with
      | none => simp [hl] at hu
      | some u' => simp [hl] at hu; subst hu; exact mv3 u' (hs.oks t u' hl)
  have hm := hM1.mem
  refine ⟨⟨hm.fr, fun j o' h => ?_, fun b h => hm.lt b (hhas b h), fun j1 j2 o1 o2 b g1 g2 hb1 hb2 => ?_, fun j o' h => ?_, fun j o' h => ?_, hm.unk, hm.val⟩, frk _ hM1.cur, fun s hs => ?_⟩
  · obtain ⟨o2, g1, rfl⟩ := back j o' h
    have := hm.ob j o2 g1
    cases o2 with
    | cells cs ty => exact ⟨by rw [dens_frz h1]; exact this.1, fun u hu => by rw [frzs_map] at hu; obtain ⟨y, hy, rfl⟩ := List.mem_map.1 hu; exact one_frz h2 y (this.2 y hy)⟩
    | mp kk es =>
      obtain ⟨ents, clock, g1, g2, g3⟩ := this
      refine ⟨ents, clock, g1, ?_, g3⟩
      rw [g2, List.map_map, List.map_map, List.map_map]
      exact List.map_congr_left fun y _ => by simp only [Function.comp, den_frz h1]
    | _ => exact this
  · obtain ⟨p1, e1, rfl⟩ := back j1 o1 g1
    obtain ⟨p2, e2, rfl⟩ := back j2 o2 g2
    rw [blk_frz] at hb1 hb2
    exact hm.ne j1 j2 p1 p2 b e1 e2 hb1 hb2
  · obtain ⟨o2, g1, rfl⟩ := back j o' h
    exact hm.no j o2 g1
  · obtain ⟨o2, g1, rfl⟩ := back j o' h
    have := hm.oko j o2 g1
    cases o2 with
    | cells cs ty => exact fun u hu => by rw [frzs_map] at hu; obtain ⟨y, hy, rfl⟩ := List.mem_map.1 hu; exact mv3 y (this y hy)
    | mp kk es => exact fun y hy => by obtain ⟨z, hz, rfl⟩ := List.mem_map.1 hy; exact mv3 _ (this z hz)
    | row => exact fun j' hj u hu => mv2 u (this j' hj u hu)
    | _ => trivial
  · have : ∀ l : List Sus, (∀ s ∈ l, FrOk E w st.no (Ex XC E (upd st.ob i .gone)) s) → ∀ s ∈ frzSus i x l, FrOk E w st.no (Ex XC E (frzOb i x (upd st.ob i .gone))) s := by
      intro l
      induction l with
      | nil => intro _ s hs; simp [frzSus] at hs
      | cons y r ih =>
        intro hl s hs
        simp only [frzSus] at hs
        rcases List.mem_cons.1 hs with rfl | hs
        · exact frk y (hl y (by simp))
        · exact ih (fun s hs => hl s (by simp [hs])) s hs
    exact this st.sus hM1.sus s hs
theorem Models.freeze0 (hM : Models XC X0 w0 st E a w) (hXC : ∀ b, XC b → b < w0.heap.size ∧ ¬ X0 b) {i : Nat} {e k m : Nat} {el : Nat → List SV} (hn : nth st.ob i = some (.row e k m el)) : ∃ A c, E.val i = .slice A m c ∧ Ok st.no (Ex XC E (upd st.ob i .gone)) w (.s A m c k el) := by
  have hob := hM.mem.ob i _ hn
  have hok := hM.mem.oko i _ hn
  have key : ∀ A c, E.val i = .slice A m c → c ≤ 9223372036854775807 → m ≤ c → (∀ ix, ix < m → ∃ g, A = some ⟨g, 0, none⟩ ∧ rowBlk (E.val i) = some g ∧ ∀ r u, (el ix)[r]? = some u → w.cell? ⟨g, ix * k + r, none⟩ = some (den0 u)) → ∃ A c, E.val i = .slice A m c ∧ Ok st.no (Ex XC E (upd st.ob i .gone)) w (.s A m c k el) := fun A c hv hc hmc hr => by
    refine ⟨A, c, hv, .s hmc hc (fun ix hix => ?_) (fun ix hix u hu => ⟨((hob.2.1 ix hix).2 u hu).2, ((hob.2.1 ix hix).2 u hu).1⟩) fun ix hix u hu => ?_⟩
    · obtain ⟨g, rfl, hg, hcell⟩ := hr ix hix
      have hlt := hM.mem.lt g ⟨i, _, hn, hg⟩
      refine ⟨_, rfl, hlt.1, ?_, (hob.2.1 ix hix).1, fun r u hu => by rw [add_lit, Nat.zero_add]; exact hcell r u hu⟩
      rintro (⟨j, o', h1, h2⟩ | h)
      · rw [nth_upd] at h1
        split at h1
        · simp [hn] at h1; subst h1; simp [blk] at h2
        · rename_i hji; exact hji (hM.mem.ne j i o' _ g h1 hn h2 hg)
      · rcases hlt.2 with h' | h'
        · exact (hXC g h).2 h'
        · exact absurd h' (Nat.not_le.2 (hXC g h).1)
    · exact (hok ix hix u hu).move (Nat.le_refl _) (Nat.le_refl _) fun b _ hX => ⟨fun h => hX (h.imp (fun ⟨j, o', h1, h2⟩ => by
        rw [nth_upd] at h1
        split at h1
        · simp [hn] at h1; subst h1; simp [blk] at h2
        · exact ⟨j, o', h1, h2⟩) id), rfl⟩
  rcases hob.1.2 with ⟨A, hv, h0⟩ | ⟨g, c, cur, hv, hg, hnc, hcm, _⟩
  · subst h0
    exact key A 0 hv (by omega) (Nat.le_refl _) fun ix hix => by omega
  · refine key _ _ hv (by simp only [maxLen] at hcm; omega) hnc fun ix hix => ?_
    obtain ⟨g', h1, h2⟩ := hob.1.read hob.2.1 hix
    have : g' = g := by rw [hv] at h1; simpa [rowBlk] using h1.symm
    subst this
    exact ⟨g', rfl, h1, h2⟩
theorem Models.freeze (hM : Models XC X0 w0 st E a w) (hXC : ∀ b, XC b → b < w0.heap.size ∧ ¬ X0 b) {i : Nat} {e k m : Nat} {el : Nat → List SV} (hn : nth st.ob i = some (.row e k m el)) : ∃ A c, Models XC X0 w0 (st.frz i (.s A m c k el)) E a w := by
  obtain ⟨A, c, h1, h2⟩ := hM.freeze0 hXC hn
  exact ⟨A, c, hM.frz hn h1.symm rfl h2⟩
theorem p_frz (i : Nat) {e k m : Nat} {el : Nat → List SV} (hn : nth st.ob i = some (.row e k m el)) (hk : ∀ A c, QS P XC X0 w0 b up fo R todo gd (st.frz i (.s A m c k el))) : QS P XC X0 w0 b up fo R todo gd st := by
  intro hXC E a w hM hgd
  obtain ⟨A, c, h⟩ := hM.freeze hXC hn
  exact hk A c hXC E a w h hgd
/-- A nil slice in a cell is a row of its own, of no elements. -/
theorem p_nil (j off : Nat) {e k : Nat} (hk0 : 0 < k) {cs : List SV} {t : Nat} (hn : nth st.ob j = some (.cells cs t)) (hc : cs[off]? = some (.v (.slice none 0 0)))
    (hk : QS P XC X0 w0 b up fo R todo gd { st with ob := (st.no, .row e k 0 fun _ => []) :: upd st.ob j (.cells (cs.set off (.own st.no)) t), no := st.no + 1 }) : QS P XC X0 w0 b up fo R todo gd st := by
  intro hXC E a w hM hgd
  have hob := hM.mem.ob j _ hn
  have hok := hM.mem.oko j _ hn
  have hlt := hM.mem.no j _ hn
  obtain ⟨m, mv⟩ := hM.mem.next (w' := w) (old := none) (row := none) (by simp) (grownBy_refl w none) (setVal_eq E st.no (.slice none 0 0)) hM.mem.unk (fun i => by simp only [Env.setVal]; split; rfl; exact hM.mem.val i) (o := .row e k 0 fun _ => [])
    (fun b hb => by simp [blk, Env.setVal, rowBlk] at hb) ⟨by simp only [Env.setVal, if_true]; exact ⟨by simp [flat, dens], .inl ⟨none, rfl, rfl⟩⟩, fun i hi => by omega, hk0⟩ (fun i hi => by omega)
  have hM1 := hM.trans m (by omega) (setVal_eq _ _ _) mv
  have hn1 : nth ((st.no, Ob.row e k 0 fun _ => []) :: goneOf none st.ob) j = some (.cells cs t) := by
    rw [nth_cons, if_neg (by omega)]; exact hn
  have hd : dens (E.setVal st.no (.slice none 0 0)) (cs.set off (.own st.no)) = dens (E.setVal st.no (.slice none 0 0)) cs := by
    rw [dens_map, dens_map, List.map_set]
    apply List.ext_getElem?
    intro i
    rw [List.getElem?_set]
    split
    · rename_i hi; subst hi
      split
      · rename_i hlt2
        simp only [List.getElem?_map, hc, Option.map_some, den, Env.setVal, if_true]
      · rename_i hlt2
        simp at hlt2
        have : off < cs.length := (List.getElem?_eq_some_iff.1 hc).1
        omega
    · rfl
  have ob1 := hM1.mem.ob j _ hn1
  have ok1 := hM1.mem.oko j _ hn1
  obtain ⟨m2, mv2⟩ := hM1.mem.set (w' := w) (o' := .cells (cs.set off (.own st.no)) t) hn1 (fun b h => h) (grownBy_refl _ _) ⟨by rw [hd]; exact ob1.1, fun u hu => by
      rcases List.mem_or_eq_of_mem_set hu with h | rfl
      · exact ob1.2 u h
      · rfl⟩ (fun u hu => by
      rcases List.mem_or_eq_of_mem_set hu with h | rfl
      · exact ok1 u h
      · exact .own (by show st.no < st.no + 1; omega))
  have hM2 := hM1.trans m2 (Nat.le_refl _) (EnvEq.refl _ _) mv2
  refine hk hXC (E.setVal st.no (.slice none 0 0)) a w ?_ hgd
  have hu : upd ((st.no, Ob.row e k 0 fun _ => []) :: goneOf none st.ob) j (.cells (cs.set off (.own st.no)) t) = (st.no, .row e k 0 fun _ => []) :: upd st.ob j (.cells (cs.set off (.own st.no)) t) := by
    simp only [upd, if_neg (show ¬ st.no = j by omega), goneOf]
  simp only [hu] at hM2
  exact hM2
/-- So in a temporary. -/
theorem p_nilT (t : Nat) {e k : Nat} (hk0 : 0 < k) (ht : t < st.nt) (hc : look st.tm t = some (.v (.slice none 0 0)))
    (hk : QS P XC X0 w0 b up fo R todo gd { st with tm := (t, .own st.no) :: st.tm, ob := (st.no, .row e k 0 fun _ => []) :: st.ob, no := st.no + 1 }) : QS P XC X0 w0 b up fo R todo gd st := by
  intro hXC E a w hM hgd
  obtain ⟨m, mv⟩ := hM.mem.next (w' := w) (old := none) (row := none) (by simp) (grownBy_refl w none) (setVal_eq E st.no (.slice none 0 0)) hM.mem.unk (fun i => by simp only [Env.setVal]; split; rfl; exact hM.mem.val i) (o := .row e k 0 fun _ => [])
    (fun b hb => by simp [blk, Env.setVal, rowBlk] at hb) ⟨by simp only [Env.setVal, if_true]; exact ⟨by simp [flat, dens], .inl ⟨none, rfl, rfl⟩⟩, fun i hi => by omega, hk0⟩ (fun i hi => by omega)
  have hM1 := hM.trans m (by omega) (setVal_eq _ _ _) mv
  refine hk hXC (E.setVal st.no (.slice none 0 0)) a w ⟨hM1.mem, ⟨hM1.cur.size, hM1.cur.defers, hM1.cur.dfl, fun t' u hu ht' => ?_, fun t' u hu => ?_⟩, hM1.sus⟩ hgd
  · simp only [St.cur, look] at hu
    split at hu
    · rename_i he; subst he; simp at hu; subst hu
      have h0 : a.tmps[t]? = _ := hM1.cur.tm t _ hc ht
      show a.tmps[t]? = _
      rw [h0]
      simp [den, ofVal, Env.setVal]
    · exact hM1.cur.tm t' u hu ht'
  · simp only [St.cur, look] at hu
    split at hu
    · simp at hu; subst hu; exact .own (by show st.no < st.no + 1; omega)
    · exact hM1.cur.oks t' u hu
end
end Go.SE
set_option linter.unusedVariables false
set_option linter.unusedSimpArgs false
namespace Go.SE
open Go.RowKit

/-! ### the types, checked by a Bool -/
def zB : Z → Value → Bool
  | .i k, .int k' n => decide (k = k') && (n == 0)
  | .b, .bool b => !b
  | .sl, .slice none 0 0 => true
  | .np, .pointer none => true
  | .mp, .map none => true
  | .fn, .nilFunc => true
  | .ifc, .nilIface => true
  | .str, .string b => b.data.size == 0
  | _, _ => false
theorem zB_ok {z : Z} {v : Value} (h : zB z v = true) : v = z.val := by
  unfold zB at h
  split at h <;> first | (simp at h; done) | skip
  · simp only [Bool.and_eq_true, decide_eq_true_eq, beq_iff_eq] at h
    obtain ⟨rfl, rfl⟩ := h; rfl
  · rename_i b; cases b <;> simp_all [Z.val]
  all_goals first | rfl | skip
  rename_i b
  obtain ⟨⟨l⟩⟩ := b
  simp at h
  subst h; rfl
def zsB : List Z → List Value → Bool
  | [], [] => true
  | z :: r, v :: s => zB z v && zsB r s
  | _, _ => false
theorem zsB_ok {l : List Z} {m : List Value} (h : zsB l m = true) : m = l.map Z.val := by
  induction l generalizing m with
  | nil => cases m <;> simp_all [zsB]
  | cons z r ih => cases m with
    | nil => simp [zsB] at h
    | cons v s =>
      simp only [zsB, Bool.and_eq_true] at h
      rw [zB_ok h.1, ih h.2]; rfl
def fldB : List (Nat × Nat) → List Field → Bool
  | [], [] => true
  | (o, t) :: r, f :: s => f.offset == o && f.type == t && fldB r s
  | _, _ => false
theorem fldB_ok {l : List (Nat × Nat)} {m : List Field} (h : fldB l m = true) : m.map (fun x => (x.offset, x.type)) = l := by
  induction l generalizing m with
  | nil => cases m <;> simp_all [fldB]
  | cons z r ih => cases m with
    | nil => obtain ⟨o, t⟩ := z; simp [fldB] at h
    | cons v s =>
      obtain ⟨o, t⟩ := z
      simp only [fldB, Bool.and_eq_true, beq_iff_eq] at h
      simp [h.1.1, h.1.2, ih h.2]
def fitsB : TD → TypeDesc → Bool
  | .word, .struct _ => false
  | .word, .array _ _ => false
  | .word, _ => true
  | .bool, .bool => true
  | .int k, .int k' => decide (k = k')
  | .struct fs, .struct f => fldB fs f.toList
  | .arr n e, .array n' e' => n == n' && e == e'
  | .sl e, .slice e' => e == e'
  | _, _ => false
theorem fitsB_ok {d : TD} {t : TypeDesc} (h : fitsB d t = true) : d.fits t := by
  cases d <;> cases t <;> first | (simp [fitsB] at h; done) | trivial | skip
  · simp [fitsB] at h; subst h; rfl
  · exact ⟨_, rfl, fldB_ok h⟩
  · simp [fitsB] at h; obtain ⟨rfl, rfl⟩ := h; rfl
  · simp [fitsB] at h; subst h; rfl
def chkTI (P : Program) (t : Nat) (ti : TI) : Bool :=
  ti.zero.length == ti.size && (match P.info? t with
    | some i => i.size == ti.size && i.bytes == ti.bytes && (match i.zero with
      | some z => zsB ti.zero z.cells.toList
      | none => false)
    | none => false) && (match P.underlying t with
    | some d => fitsB ti.d d
    | none => false)
theorem chkTI_ok {P : Program} {t : Nat} {ti : TI} (h : chkTI P t ti = true) : TIok P t ti := by
  unfold chkTI at h
  simp only [Bool.and_eq_true] at h
  obtain ⟨⟨h0, h1⟩, h2⟩ := h
  refine ⟨?_, ?_, by simpa using h0⟩
  · split at h1
    · rename_i i hi
      simp only [Bool.and_eq_true, beq_iff_eq] at h1
      obtain ⟨⟨a, b⟩, c⟩ := h1
      split at c
      · rename_i z hz
        exact ⟨i, hi, a, b, z, hz, zsB_ok c⟩
      · simp at c
    · simp at h1
  · split at h2
    · rename_i d hd
      exact ⟨d, hd, fitsB_ok h2⟩
    · simp at h2

/-! ### '==' of flat structs -/
mutual
def chkEq (P : Program) : Nat → TypeId → List IntKind → Bool
  | 0, _, _ => false
  | n + 1, t, ks =>
    match P.underlying t with
    | some (.int _) => ks.length == 1
    | some (.struct fs) => !P.stoodInHeld t && (match P.info? t with
      | some i => i.size == ks.length
      | none => false) && chkEqF P n fs.toList 0 ks
    | _ => false
def chkEqF (P : Program) : Nat → List Field → Nat → List IntKind → Bool
  | 0, _, _, _ => false
  | _ + 1, [], _, ks => ks.length == 0
  | n + 1, f :: r, off, ks => f.name != "_" && f.offset == off && (match P.info? f.type with
      | some i => chkEq P n f.type (ks.take i.size) && (ks.take i.size).length == i.size && chkEqF P n r (off + i.size) (ks.drop i.size)
      | none => false)
end
theorem mkI_take (ks : List IntKind) (xs : List Int) (n : Nat) : mkI (ks.take n) (xs.take n) = (mkI ks xs).take n := by
  induction ks generalizing xs n with
  | nil => simp [mkI]
  | cons k ks ih =>
    cases n with
    | zero => simp [mkI]
    | succ n => cases xs with
      | nil => simp [mkI]
      | cons x xs => simp [mkI, ih]
theorem mkI_drop (ks : List IntKind) (xs : List Int) (n : Nat) : mkI (ks.drop n) (xs.drop n) = (mkI ks xs).drop n := by
  induction ks generalizing xs n with
  | nil => simp [mkI]
  | cons k ks ih =>
    cases n with
    | zero => simp [mkI]
    | succ n => cases xs with
      | nil => cases hk : List.drop n ks <;> simp [mkI, hk]
      | cons x xs => simp [mkI, ih]
theorem beq_split (xs ys : List Int) (n : Nat) (h : xs.length = ys.length) : (xs == ys) = ((xs.take n == ys.take n) && (xs.drop n == ys.drop n)) := by
  rw [Bool.eq_iff_iff]
  simp only [beq_iff_eq, Bool.and_eq_true]
  constructor
  · rintro rfl; exact ⟨rfl, rfl⟩
  · rintro ⟨h1, h2⟩
    rw [← List.take_append_drop n xs, ← List.take_append_drop n ys, h1, h2]

/-- what a type's cells are as one value -/
def tv (P : Program) (t : TypeId) (ks : List IntKind) (xs : List Int) : Value :=
  match P.underlying t with
  | some (.int _) => (mkI ks xs).headD undef
  | _ => .agg (mkI ks xs).toArray
def TyEq (P : Program) (n : Nat) (t : TypeId) (ks : List IntKind) : Prop :=
  (∀ (cs : Array Value) (off : Nat) (xs : List Int) w, xs.length = ks.length → (cs.toList.drop off).take ks.length = mkI ks xs → (part t cs off).run P w = .ok (tv P t ks xs) w) ∧
  ∀ d, n ≤ d → ∀ (xs ys : List Int) w, xs.length = ks.length → ys.length = ks.length → (Op.equalIn d t (tv P t ks xs) (tv P t ks ys)).run P w = .ok (xs == ys) w
theorem chkEq_ok (P : Program) : ∀ n, (∀ t ks, chkEq P n t ks = true → TyEq P n t ks) ∧
    (∀ fs off ks, chkEqF P n fs off ks = true → ∀ d, n ≤ d → ∀ (KS : List IntKind) (xs ys : List Int) w, KS.drop off = ks → xs.length = KS.length → ys.length = KS.length →
      (Op.eqFields d (mkI KS xs).toArray (mkI KS ys).toArray fs).run P w = .ok (xs.drop off == ys.drop off) w) := by
  intro n
  induction n with
  | zero => exact ⟨fun t ks h => by simp [chkEq] at h, fun fs off ks h => by simp [chkEqF] at h⟩
  | succ n ih =>
    refine ⟨fun t ks h => ?_, fun fs off ks h => ?_⟩
    · unfold chkEq at h
      split at h
      · rename_i k' hu
        have hl : ks.length = 1 := by simpa using h
        obtain ⟨k, rfl⟩ := List.length_eq_one_iff.1 hl
        have agg : ∀ w, (isAgg t).run P w = .ok false w := fun w => by simp [isAgg, underlying, hu, Result.andThen]
        refine ⟨fun cs off xs w hx hc => ?_, fun d hd xs ys w hx hy => ?_⟩
        · obtain ⟨x, rfl⟩ := List.length_eq_one_iff.1 hx
          simp only [mkI, List.length_singleton] at hc
          have : cs[off]? = some (.int k x) := by
            have := congrArg (fun l => l[0]?) hc
            simpa using this
          simp [part, agg, Result.andThen, this, tv, hu, mkI]
        · obtain ⟨x, rfl⟩ := List.length_eq_one_iff.1 hx
          obtain ⟨y, rfl⟩ := List.length_eq_one_iff.1 hy
          obtain ⟨d, rfl⟩ : ∃ d', d = d' + 1 := ⟨d - 1, by omega⟩
          simp only [tv, hu, mkI, List.headD_cons]
          rw [run_equalIn_int _ _ _ _ _ _ _ hu]
          simp
      · rename_i fs hu
        simp only [Bool.and_eq_true, Bool.not_eq_true'] at h
        obtain ⟨⟨h1, h2⟩, h3⟩ := h
        have hf : P.fieldsOf t = fs := by simp [Program.fieldsOf, hu]
        have hi : ∃ i, P.info? t = some i ∧ i.size = ks.length := by
          split at h2
          · rename_i i hi; exact ⟨i, hi, by simpa using h2⟩
          · simp at h2
        obtain ⟨i, hi, hs⟩ := hi
        have agg : ∀ w, (isAgg t).run P w = .ok true w := fun w => by simp [isAgg, underlying, hu, Result.andThen]
        have siz : ∀ w, (sizeOf t).run P w = .ok ks.length w := fun w => by simp [sizeOf, typeInfo, hi, hs, Result.andThen]
        refine ⟨fun cs off xs w hx hc => ?_, fun d hd xs ys w hx hy => ?_⟩
        · simp only [part, Sem.run_bind, agg, Result.andThen, if_true, siz, Sem.run_pure, tv, hu]
          rw [← hc]
          congr 2
          apply Array.ext'
          simp [List.extract_eq_take_drop]
        · obtain ⟨d, rfl⟩ : ∃ d', d = d' + 1 := ⟨d - 1, by omega⟩
          simp only [tv, hu]
          rw [run_equalIn_struct _ _ _ _ _ (by rw [hf]; exact hu) h1, hf]
          have := ih.2 fs.toList 0 ks h3 d (by omega) ks xs ys w rfl hx hy
          simpa using this
      · simp at h
    · cases fs with
      | nil =>
        intro d hd KS xs ys w hK hx hy
        simp only [chkEqF, beq_iff_eq] at h
        have hl : KS.length ≤ off := by
          have : (KS.drop off).length = 0 := by rw [hK]; exact h
          simp at this; omega
        rw [List.drop_eq_nil_of_le (by omega), List.drop_eq_nil_of_le (by omega)]
        simp [Op.eqFields]
      | cons f r =>
        intro d hd KS xs ys w hK hx hy
        simp only [chkEqF] at h
        simp only [Bool.and_eq_true, bne_iff_ne, ne_eq, beq_iff_eq] at h
        obtain ⟨⟨h1, h2⟩, h3⟩ := h
        split at h3
        · rename_i i hi
          simp only [Bool.and_eq_true, beq_iff_eq] at h3
          obtain ⟨⟨h4, h5⟩, h6⟩ := h3
          obtain ⟨p1, p2⟩ := ih.1 _ _ h4
          have hsz : i.size ≤ ks.length := by rw [List.length_take] at h5; omega
          have cells : ∀ zs : List Int, zs.length = KS.length → ((mkI KS zs).toArray.toList.drop off).take (ks.take i.size).length = mkI (ks.take i.size) ((zs.drop off).take i.size) := fun zs hz => by
            rw [mkI_take, ← hK, mkI_drop, hK, h5]
          have len : ∀ zs : List Int, zs.length = KS.length → ((zs.drop off).take i.size).length = (ks.take i.size).length := fun zs hz => by
            rw [← hK]; simp [hz]
          have e1 := p1 (mkI KS xs).toArray off _ w (len xs hx) (cells xs hx)
          have e2 := p1 (mkI KS ys).toArray off _ w (len ys hy) (cells ys hy)
          have e3 := p2 d (by omega) _ _ w (len xs hx) (len ys hy)
          have e4 := ih.2 r (off + i.size) (ks.drop i.size) h6 d (by omega) KS xs ys w (by rw [← hK, List.drop_drop]) hx hy
          simp only [Op.eqFields, if_pos h1, h2, Sem.run_bind, e1, Result.andThen, e2, e3]
          have hsp := beq_split (xs.drop off) (ys.drop off) i.size (by simp [hx, hy])
          rw [hsp, List.drop_drop, List.drop_drop]
          cases hb : ((xs.drop off).take i.size == (ys.drop off).take i.size) with
          | true => simp [e4]
          | false => simp
        · simp at h3
def chkEqT (P : Program) (t : TypeId) (ks : List IntKind) : Bool := chkEq P 50 t ks && !P.eqGuardType P.depth t && (match P.underlying t with
  | some (.struct _) => true
  | _ => false)
theorem chkEqT_ok {P : Program} {t : TypeId} {ks : List IntKind} (h : chkEqT P t ks = true) : (∀ (op : BinOp) (x y : Operand) (p q : Array Value) w, (eqGuard op t x y (.agg p) (.agg q)).run P w = .ok () w) ∧
    ∀ xs ys : List Int, xs.length = ks.length → ys.length = ks.length → ∀ w, (Op.equal t (.agg (mkI ks xs).toArray) (.agg (mkI ks ys).toArray)).run P w = .ok (xs == ys) w := by
  simp only [chkEqT, Bool.and_eq_true, Bool.not_eq_true'] at h
  obtain ⟨⟨h1, h2⟩, h3⟩ := h
  refine ⟨fun op x y p q w => run_eqGuard_agg w op t x y p q h2, fun xs ys hx hy w => ?_⟩
  have := (((chkEq_ok P 50).1 t ks h1).2 10000 (by omega) xs ys w hx hy)
  split at h3
  · rename_i fs hu
    simp only [tv, hu] at this
    exact this
  · simp at h3
/-- A table, checked entry by entry. -/
def chkTab (P : Program) (T : List (Nat × TI)) : Bool := T.all fun x => chkTI P x.1 x.2 && (match x.2.eqs with
  | some ks => chkEqT P x.1 ks
  | none => true)
theorem chkTab_ok {P : Program} {T : List (Nat × TI)} (h : chkTab P T = true) : TabOk P T ∧ EqOk P T := by
  simp only [chkTab, List.all_eq_true, Bool.and_eq_true] at h
  refine ⟨fun t ti hm => chkTI_ok (h _ hm).1, fun t ti ks ht he => ?_⟩
  have := (h _ (ty_mem ht)).2
  simp only [he] at this
  exact chkEqT_ok this

end Go.SE
