/- A walk by symbols over the given program, a part of it: lemmas alone; what is claimed stands in the last text. No conditions of its own. -/
import Derived.Test.YtneddobmlcbabaaWaG
import Derived.Deep.Slices
import Derived.Deep.Fields
import Derived.ChangeOld
set_option linter.unusedVariables false
set_option linter.unusedSimpArgs false
set_option linter.unusedVariables false
namespace Go.SE
open Go.Deep

/-- what one cell of an argument is -/
inductive Leaf where
  | int (k : IntKind)
  | bool
  | sl (e : Nat)
section
variable {H : Type} {enc : TypeId × Value → H} {P : Program} {w : World} {base : Nat} {sp : Nat → Bool} {held : Bool}
def LeafOk (enc : TypeId × Value → H) (P : Program) (w : World) (base : Nat) (sp : Nat → Bool) (held : Bool) : Leaf → Value → Prop
  | .int k, v => ∃ n, v = .int k n ∧ (Lit.int k n).wf = true
  | .bool, v => ∃ b, v = .bool b
  | .sl e, v => ∃ t n x, P.underlying t = some (.slice e) ∧ DataW.trod enc P w base sp held n t [v] = some x
def LeavesOk (enc : TypeId × Value → H) (P : Program) (w : World) (base : Nat) (sp : Nat → Bool) (held : Bool) : List Leaf → List Value → Prop
  | [], [] => True
  | l :: ls, v :: vs => LeafOk enc P w base sp held l v ∧ LeavesOk enc P w base sp held ls vs
  | _, _ => False
theorem LeavesOk.cons {l : Leaf} {ls : List Leaf} {cs : List Value} (h : LeavesOk enc P w base sp held (l :: ls) cs) : ∃ v vs, cs = v :: vs ∧ LeafOk enc P w base sp held l v ∧ LeavesOk enc P w base sp held ls vs := by
  cases cs with
  | nil => exact h.elim
  | cons v vs => exact ⟨v, vs, rfl, h.1, h.2⟩
theorem LeavesOk.nil {cs : List Value} (h : LeavesOk enc P w base sp held [] cs) : cs = [] := by
  cases cs with
  | nil => rfl
  | cons v vs => exact h.elim
theorem LeavesOk.app : ∀ {l r : List Leaf} {cs : List Value}, LeavesOk enc P w base sp held l (cs.take l.length) → LeavesOk enc P w base sp held r (cs.drop l.length) → LeavesOk enc P w base sp held (l ++ r) cs
  | [], _, _, _, h => h
  | l :: ls, r, cs, h1, h2 => by
    cases cs with
    | nil => exact h1.elim
    | cons v vs => exact ⟨h1.1, LeavesOk.app h1.2 h2⟩
def leavesFs (P : Program) (q : Nat → Option (List Leaf)) : List Field → Nat → Option (List Leaf)
  | [], _ => some []
  | g :: r, acc => if g.offset = acc then (q g.type).bind fun l => if P.cellsOf g.type = l.length then (leavesFs P q r (acc + l.length)).map (l ++ ·) else none else none
def leaves (P : Program) : Nat → Nat → Option (List Leaf)
  | 0, _ => none
  | f + 1, t => match P.underlying t with
    | some (.int k) => some [.int k]
    | some .bool => some [.bool]
    | some (.slice e) => some [.sl e]
    | some (.struct fs) => (leavesFs P (leaves P f) fs.toList 0).bind fun ls => if P.cellsOf t = ls.length then some ls else none
    | _ => none
theorem leavesFs_ok {f : Nat} {cs : List Value} (ih : ∀ (t : Nat) (ls : List Leaf) (n : Nat) (cs : List Value) (x : DataW H × List MemPlace), leaves P f t = some ls → DataW.trod enc P w base sp held n t cs = some x → LeavesOk enc P w base sp held ls cs) :
    ∀ (l : List Field) (acc : Nat) (ls : List Leaf), leavesFs P (leaves P f) l acc = some ls → (∀ g ∈ l, ∃ n x, DataW.trod enc P w base sp held n g.type ((cs.drop g.offset).take (P.cellsOf g.type)) = some x) → cs.length = acc + ls.length → LeavesOk enc P w base sp held ls (cs.drop acc)
  | [], acc, ls, h, _, hl => by
    simp only [leavesFs, Option.some.injEq] at h
    subst h
    rw [List.drop_eq_nil_of_le (by simp at hl; omega)]
    trivial
  | g :: r, acc, ls, h, hg, hl => by
    rw [leavesFs] at h
    split at h
    · rename_i ho
      cases hq : leaves P f g.type with
      | none => rw [hq] at h; cases h
      | some l =>
        rw [hq] at h
        simp only [Option.bind_some] at h
        split at h
        · rename_i hc
          cases hr : leavesFs P (leaves P f) r (acc + l.length) with
          | none => rw [hr] at h; cases h
          | some ls' =>
            rw [hr] at h
            simp only [Option.map_some, Option.some.injEq] at h
            subst h
            obtain ⟨n, x, hx⟩ := hg g (by simp)
            rw [ho, hc] at hx
            have i2 := leavesFs_ok ih r (acc + l.length) ls' hr (fun g' hg' => hg g' (by simp [hg'])) (by rw [List.length_append] at hl; omega)
            refine LeavesOk.app (ih _ _ _ _ _ hq hx) ?_
            rw [List.drop_drop]
            exact i2
        · cases h
    · cases h
theorem leaves_ok : ∀ (f : Nat) (t : Nat) (ls : List Leaf) (n : Nat) (cs : List Value) (x : DataW H × List MemPlace), leaves P f t = some ls → DataW.trod enc P w base sp held n t cs = some x → LeavesOk enc P w base sp held ls cs
  | 0, _, _, _, _, _, h, _ => by simp [leaves] at h
  | f + 1, t, ls, n, cs, x, h, hx => by
    rw [leaves] at h
    split at h
    · rename_i k hu
      simp only [Option.some.injEq] at h
      subst h
      obtain ⟨m, rfl, _, hw⟩ := DataW.trod_int hu hx
      exact ⟨⟨m, rfl, hw⟩, trivial⟩
    · rename_i hu
      simp only [Option.some.injEq] at h
      subst h
      obtain ⟨m, rfl, _⟩ := DataW.trod_bool hu hx
      exact ⟨⟨m, rfl⟩, trivial⟩
    · rename_i e hu
      simp only [Option.some.injEq] at h
      subst h
      rcases DataW.trod_slice hu hx with ⟨rfl, _⟩ | ⟨a, len, cap, _, _, _, _, rfl, _⟩
      · exact ⟨⟨t, n, x, hu, hx⟩, trivial⟩
      · exact ⟨⟨t, n, x, hu, hx⟩, trivial⟩
    · rename_i fs hu
      cases hq : leavesFs P (leaves P f) fs.toList 0 with
      | none => rw [hq] at h; cases h
      | some l =>
        rw [hq] at h
        simp only [Option.bind_some] at h
        split at h
        · rename_i hc
          simp only [Option.some.injEq] at h
          subst h
          obtain ⟨xs, m, rfl, _, hl, hxl, hf⟩ := DataW.trod_struct hu hx
          have := leavesFs_ok (cs := cs) (leaves_ok f) fs.toList 0 l hq (fun g hg => by
            obtain ⟨i, hi, rfl⟩ := List.getElem_of_mem hg
            have hi' : i < fs.size := by simpa using hi
            have := hf i fs[i] (by simp [hi'])
            rw [List.getElem?_eq_getElem (by omega)] at this
            exact ⟨m, xs[i], by simpa using this⟩) (by omega)
          simpa using this
        · cases h
    · cases h
/-- The cells of a value of type t are some datum's. -/
def Reads (P : Program) (w : World) (t : Nat) {D : Type} (cs : D → List SV) (Q : D → Prop) : Prop :=
  ∀ {H : Type} (enc : TypeId × Value → H) (base : Nat) (sp : Nat → Bool) (held : Bool) (n : Nat) (cells : List Value) (x : DataW H × List MemPlace), DataW.trod enc P w base sp held n t cells = some x →
    ∃ d : D, cells = dens E0 (cs d) ∧ (∀ u ∈ cs d, Ok 0 (fun _ => False) w u) ∧ Q d
end
end Go.SE
namespace Go.Proofs.Ytneddobmlcbabaa
open Go.SE
open Go.RowKit
section
variable {H : Type} {enc : TypeId × Value → H} {P : Program} {w : World} {base : Nat} {sp : Nat → Bool} {held : Bool}
theorem slice_reads {D : Type} [Inhabited D] {cs : D → List SV} {Q : D → Prop} {k e : Nat} (hk : P.cellsOf e = k) (k0 : 0 < k) (hR : Reads P w e cs Q) (hsh : ∀ d, (cs d).length = k ∧ ∀ u ∈ cs d, one u = true ∧ pure u = true) {v : Value} (h : LeafOk enc P w base sp held (.sl e) v) :
    ∃ s : Sl D, v = den0 (s.sv k cs) ∧ Ok 0 (fun _ => False) w (s.sv k cs) ∧ ∀ x ∈ s.l, Q x := by
  obtain ⟨t, n, x, ht, hx⟩ := h
  rcases DataW.trod_slice ht hx with ⟨hv, _⟩ | ⟨a, len, cap, elems, rest, m, _, hv, _, hb, hl, hm, hlen, hel, _, _⟩
  · simp only [List.cons.injEq, and_true] at hv
    subst hv
    refine ⟨⟨none, 0, []⟩, rfl, .s (Nat.le_refl _) (Nat.zero_le _) (fun i hi => absurd hi (Nat.not_lt_zero _)) (fun i hi => absurd hi (Nat.not_lt_zero _)) (fun i hi => absurd hi (Nat.not_lt_zero _)), by simp⟩
  · simp only [List.cons.injEq, and_true] at hv
    subst hv
    have key : ∀ i, i < len → ∃ d : D, (∀ j u, (cs d)[j]? = some u → w.cell? ((a.add (i * k)).add j) = some (den0 u)) ∧ a.block < w.heap.size ∧ (∀ u ∈ cs d, Ok 0 (fun _ => False) w u) ∧ Q d := fun i hi => by
      have h1 := hel i hi
      rw [List.getElem?_eq_getElem (by omega)] at h1
      obtain ⟨cells, h2, h3⟩ := Option.bind_eq_some_iff.1 h1
      obtain ⟨d, h4, h5, h6⟩ := hR enc base sp held m cells _ h3
      obtain ⟨_, q2, q3⟩ := World.cells?_some h2
      have hblk := World.cells?_block h2 (by rw [hk]; exact k0)
      rw [add_block] at hblk
      refine ⟨d, fun j u hu => ?_, hblk, h5, h6⟩
      have hj : j < k := by
        rw [← (hsh d).1]
        exact (List.getElem?_eq_some_iff.1 hu).1
      have := q3 j (by rw [hk]; exact hj)
      rw [hk] at this
      rw [this, h4, dens_map, List.getElem?_map, hu]
      rfl
    let f : Nat → D := fun i => if h : i < len then Classical.choose (key i h) else default
    have hf : ∀ i (h : i < len), f i = Classical.choose (key i h) := fun i h => by simp only [f, dif_pos h]
    have hg : ∀ i, i < len → ((List.range len).map f).getD i default = f i := fun i hi => by simp [List.getD_eq_getElem?_getD, hi]
    refine ⟨⟨some a, cap, (List.range len).map f⟩, ?_, ?_, fun x hx => ?_⟩
    rotate_left 2
    · obtain ⟨i, hi, rfl⟩ := List.mem_map.1 (show x ∈ (List.range len).map f from hx)
      have hi : i < len := List.mem_range.1 hi
      rw [hf i hi]
      exact (Classical.choose_spec (key i hi)).2.2.2
    · show Value.slice (some a) len cap = Value.slice (some a) ((List.range len).map f).length cap
      simp
    · have hn : ((List.range len).map f).length = len := by simp
      refine .s (by show ((List.range len).map f).length ≤ cap; rw [hn]; exact hl) (by have : maxLen ≤ 9223372036854775807 := by decide
                                                                                       exact Nat.le_trans hm this) (fun i hi => ?_) (fun i hi u hu => ?_) (fun i hi u hu => ?_)
      · have hi : i < len := by rw [← hn]; exact hi
        obtain ⟨c1, c2, c3, _⟩ := Classical.choose_spec (key i hi)
        rw [← hf i hi] at c1 c3
        refine ⟨a, rfl, c2, id, ?_, fun j u hu => ?_⟩
        · show (cs (((List.range len).map f).getD i default)).length = k
          exact (hsh _).1
        · have hu : (cs (((List.range len).map f).getD i default))[j]? = some u := hu
          rw [hg i hi] at hu
          rw [← add_add]
          exact c1 j u hu
      · have := (hsh (((List.range len).map f).getD i default)).2 u hu
        exact ⟨this.2, this.1⟩
      · have hi : i < len := by rw [← hn]; exact hi
        have hu : u ∈ cs (((List.range len).map f).getD i default) := hu
        rw [hg i hi] at hu
        obtain ⟨c1, c2, c3, _⟩ := Classical.choose_spec (key i hi)
        rw [← hf i hi] at c3
        exact c3 u hu
end
end Go.Proofs.Ytneddobmlcbabaa
set_option linter.unusedVariables false
set_option linter.unusedSimpArgs false
namespace Go.Proofs.Ytneddobmlcbabaa
open Go.SE
open Go.RowKit
set_option maxRecDepth 100000

/-- a mask that a machine word holds -/
def wordM (f : FreeD) : Prop := 0 ≤ f.m ∧ f.m < 18446744073709551616
theorem u64_wf {n : Int} (h : (Lit.int .u64 n).wf = true) : 0 ≤ n ∧ n < 18446744073709551616 := by
  simp [Lit.wf, IntKind.min, IntKind.max, IntKind.signed, IntKind.bits] at h
  omega
theorem UnitsD.sh (f : UnitsD) : f.cs.length = 2 ∧ ∀ u ∈ f.cs, one u = true ∧ pure u = true := ⟨rfl, by simp [UnitsD.cs, i64, one, SE.pure, Value.oneCell']⟩
theorem WaitD.sh (f : WaitD) : f.cs.length = 10 ∧ ∀ u ∈ f.cs, one u = true ∧ pure u = true := ⟨rfl, by simp [WaitD.cs, i64, one, SE.pure, Value.oneCell']⟩
theorem RecordD.sh (f : RecordD) : f.cs.length = 16 ∧ ∀ u ∈ f.cs, one u = true ∧ pure u = true := ⟨rfl, by simp [RecordD.cs, i64, one, SE.pure, Value.oneCell']⟩
theorem ok_i64 {w : World} {n : Int} : Ok 0 (fun _ => False) w (i64 n) := .v _
theorem ok_u64 {w : World} {n : Int} : Ok 0 (fun _ => False) w (u64 n) := .v _
theorem ok_bo {w : World} {b : Bool} : Ok 0 (fun _ => False) w (bo b) := .v _
theorem leaves73 : leaves Try.prog 4 73 = some [.int .i64, .int .i64, .int .u64, .int .i64] := by kernel_rfl
theorem free_reads (w : World) : Reads Try.prog w 73 FreeD.cs (wordM) := by
  intro H enc base sp held n cells x h
  have h := leaves_ok _ _ _ _ _ _ leaves73 h
  obtain ⟨c0, r0, rfl, l0, h⟩ := h.cons
  obtain ⟨c1, r1, rfl, l1, h⟩ := h.cons
  obtain ⟨c2, r2, rfl, l2, h⟩ := h.cons
  obtain ⟨c3, r3, rfl, l3, h⟩ := h.cons
  obtain rfl := h.nil
  obtain ⟨a0, rfl, w0⟩ := l0
  obtain ⟨a1, rfl, w1⟩ := l1
  obtain ⟨a2, rfl, w2⟩ := l2
  obtain ⟨a3, rfl, w3⟩ := l3
  refine ⟨⟨a0, a1, a2, a3⟩, rfl, ?_, u64_wf w2⟩
  intro u hu
  simp only [FreeD.cs, List.mem_cons, List.not_mem_nil, or_false] at hu
  rcases hu with rfl | rfl | rfl | rfl
  · exact ok_i64
  · exact ok_i64
  · exact ok_u64
  · exact ok_i64
theorem leaves49 : leaves Try.prog 4 49 = some [.int .i64, .int .i64, .int .u64, .int .i64] := by kernel_rfl
theorem slot_reads (w : World) : Reads Try.prog w 49 FreeD.cs (wordM) := by
  intro H enc base sp held n cells x h
  have h := leaves_ok _ _ _ _ _ _ leaves49 h
  obtain ⟨c0, r0, rfl, l0, h⟩ := h.cons
  obtain ⟨c1, r1, rfl, l1, h⟩ := h.cons
  obtain ⟨c2, r2, rfl, l2, h⟩ := h.cons
  obtain ⟨c3, r3, rfl, l3, h⟩ := h.cons
  obtain rfl := h.nil
  obtain ⟨a0, rfl, w0⟩ := l0
  obtain ⟨a1, rfl, w1⟩ := l1
  obtain ⟨a2, rfl, w2⟩ := l2
  obtain ⟨a3, rfl, w3⟩ := l3
  refine ⟨⟨a0, a1, a2, a3⟩, rfl, ?_, u64_wf w2⟩
  intro u hu
  simp only [FreeD.cs, List.mem_cons, List.not_mem_nil, or_false] at hu
  rcases hu with rfl | rfl | rfl | rfl
  · exact ok_i64
  · exact ok_i64
  · exact ok_u64
  · exact ok_i64
theorem leaves41 : leaves Try.prog 4 41 = some [.int .i64, .int .i64] := by kernel_rfl
theorem units_reads (w : World) : Reads Try.prog w 41 UnitsD.cs (fun _ => True) := by
  intro H enc base sp held n cells x h
  have h := leaves_ok _ _ _ _ _ _ leaves41 h
  obtain ⟨c0, r0, rfl, l0, h⟩ := h.cons
  obtain ⟨c1, r1, rfl, l1, h⟩ := h.cons
  obtain rfl := h.nil
  obtain ⟨a0, rfl, w0⟩ := l0
  obtain ⟨a1, rfl, w1⟩ := l1
  refine ⟨⟨a0, a1⟩, rfl, ?_, trivial⟩
  intro u hu
  simp only [UnitsD.cs, List.mem_cons, List.not_mem_nil, or_false] at hu
  rcases hu with rfl | rfl
  · exact ok_i64
  · exact ok_i64
theorem leaves44 : leaves Try.prog 4 44 = some [.int .i64, .int .i64, .int .i64, .bool, .sl 49] := by kernel_rfl
theorem hold_reads (w : World) : Reads Try.prog w 44 HoldD.cs (fun h => ∀ s ∈ h.slots.l, wordM s) := by
  intro H enc base sp held n cells x h
  have h := leaves_ok _ _ _ _ _ _ leaves44 h
  obtain ⟨c0, r0, rfl, l0, h⟩ := h.cons
  obtain ⟨c1, r1, rfl, l1, h⟩ := h.cons
  obtain ⟨c2, r2, rfl, l2, h⟩ := h.cons
  obtain ⟨c3, r3, rfl, l3, h⟩ := h.cons
  obtain ⟨c4, r4, rfl, l4, h⟩ := h.cons
  obtain rfl := h.nil
  obtain ⟨a0, rfl, w0⟩ := l0
  obtain ⟨a1, rfl, w1⟩ := l1
  obtain ⟨a2, rfl, w2⟩ := l2
  obtain ⟨a3, rfl⟩ := l3
  obtain ⟨a4, rfl, o4, q4⟩ := slice_reads (k := 4) (by kernel_rfl) (by decide) (slot_reads w) FreeD.sh l4
  refine ⟨⟨a0, a1, a2, a3, a4⟩, rfl, ?_, q4⟩
  intro u hu
  simp only [HoldD.cs, List.mem_cons, List.not_mem_nil, or_false] at hu
  rcases hu with rfl | rfl | rfl | rfl | rfl
  · exact ok_i64
  · exact ok_i64
  · exact ok_i64
  · exact ok_bo
  · exact o4
theorem leaves72 : leaves Try.prog 4 72 = some [.int .i64, .int .i64, .int .i64, .int .i64, .int .i64, .int .i64, .int .i64, .int .i64, .int .i64, .int .i64] := by kernel_rfl
theorem wait_reads (w : World) : Reads Try.prog w 72 WaitD.cs (fun _ => True) := by
  intro H enc base sp held n cells x h
  have h := leaves_ok _ _ _ _ _ _ leaves72 h
  obtain ⟨c0, r0, rfl, l0, h⟩ := h.cons
  obtain ⟨c1, r1, rfl, l1, h⟩ := h.cons
  obtain ⟨c2, r2, rfl, l2, h⟩ := h.cons
  obtain ⟨c3, r3, rfl, l3, h⟩ := h.cons
  obtain ⟨c4, r4, rfl, l4, h⟩ := h.cons
  obtain ⟨c5, r5, rfl, l5, h⟩ := h.cons
  obtain ⟨c6, r6, rfl, l6, h⟩ := h.cons
  obtain ⟨c7, r7, rfl, l7, h⟩ := h.cons
  obtain ⟨c8, r8, rfl, l8, h⟩ := h.cons
  obtain ⟨c9, r9, rfl, l9, h⟩ := h.cons
  obtain rfl := h.nil
  obtain ⟨a0, rfl, w0⟩ := l0
  obtain ⟨a1, rfl, w1⟩ := l1
  obtain ⟨a2, rfl, w2⟩ := l2
  obtain ⟨a3, rfl, w3⟩ := l3
  obtain ⟨a4, rfl, w4⟩ := l4
  obtain ⟨a5, rfl, w5⟩ := l5
  obtain ⟨a6, rfl, w6⟩ := l6
  obtain ⟨a7, rfl, w7⟩ := l7
  obtain ⟨a8, rfl, w8⟩ := l8
  obtain ⟨a9, rfl, w9⟩ := l9
  refine ⟨⟨⟨a0, a1, a2, a3, ⟨a4, a5, a6, a7⟩⟩, a8, a9⟩, rfl, ?_, trivial⟩
  intro u hu
  simp only [WaitD.cs, List.mem_cons, List.not_mem_nil, or_false] at hu
  rcases hu with rfl | rfl | rfl | rfl | rfl | rfl | rfl | rfl | rfl | rfl
  · exact ok_i64
  · exact ok_i64
  · exact ok_i64
  · exact ok_i64
  · exact ok_i64
  · exact ok_i64
  · exact ok_i64
  · exact ok_i64
  · exact ok_i64
  · exact ok_i64
theorem leaves97 : leaves Try.prog 4 97 = some [.int .i64, .int .i64, .int .i64, .int .i64, .int .i64, .int .i64, .int .i64, .int .i64, .int .i64, .int .i64, .int .i64, .int .i64, .int .i64, .int .i64, .int .i64, .int .i64] := by kernel_rfl
theorem record_reads (w : World) : Reads Try.prog w 97 RecordD.cs (fun _ => True) := by
  intro H enc base sp held n cells x h
  have h := leaves_ok _ _ _ _ _ _ leaves97 h
  obtain ⟨c0, r0, rfl, l0, h⟩ := h.cons
  obtain ⟨c1, r1, rfl, l1, h⟩ := h.cons
  obtain ⟨c2, r2, rfl, l2, h⟩ := h.cons
  obtain ⟨c3, r3, rfl, l3, h⟩ := h.cons
  obtain ⟨c4, r4, rfl, l4, h⟩ := h.cons
  obtain ⟨c5, r5, rfl, l5, h⟩ := h.cons
  obtain ⟨c6, r6, rfl, l6, h⟩ := h.cons
  obtain ⟨c7, r7, rfl, l7, h⟩ := h.cons
  obtain ⟨c8, r8, rfl, l8, h⟩ := h.cons
  obtain ⟨c9, r9, rfl, l9, h⟩ := h.cons
  obtain ⟨c10, r10, rfl, l10, h⟩ := h.cons
  obtain ⟨c11, r11, rfl, l11, h⟩ := h.cons
  obtain ⟨c12, r12, rfl, l12, h⟩ := h.cons
  obtain ⟨c13, r13, rfl, l13, h⟩ := h.cons
  obtain ⟨c14, r14, rfl, l14, h⟩ := h.cons
  obtain ⟨c15, r15, rfl, l15, h⟩ := h.cons
  obtain rfl := h.nil
  obtain ⟨a0, rfl, w0⟩ := l0
  obtain ⟨a1, rfl, w1⟩ := l1
  obtain ⟨a2, rfl, w2⟩ := l2
  obtain ⟨a3, rfl, w3⟩ := l3
  obtain ⟨a4, rfl, w4⟩ := l4
  obtain ⟨a5, rfl, w5⟩ := l5
  obtain ⟨a6, rfl, w6⟩ := l6
  obtain ⟨a7, rfl, w7⟩ := l7
  obtain ⟨a8, rfl, w8⟩ := l8
  obtain ⟨a9, rfl, w9⟩ := l9
  obtain ⟨a10, rfl, w10⟩ := l10
  obtain ⟨a11, rfl, w11⟩ := l11
  obtain ⟨a12, rfl, w12⟩ := l12
  obtain ⟨a13, rfl, w13⟩ := l13
  obtain ⟨a14, rfl, w14⟩ := l14
  obtain ⟨a15, rfl, w15⟩ := l15
  refine ⟨⟨⟨a0, a1, a2, a3, ⟨a4, a5, a6, a7⟩⟩, (a8, a9, a10, a11, a12, a13, a14, a15)⟩, rfl, ?_, trivial⟩
  intro u hu
  simp only [RecordD.cs, List.mem_cons, List.not_mem_nil, or_false] at hu
  rcases hu with rfl | rfl | rfl | rfl | rfl | rfl | rfl | rfl | rfl | rfl | rfl | rfl | rfl | rfl | rfl | rfl
  · exact ok_i64
  · exact ok_i64
  · exact ok_i64
  · exact ok_i64
  · exact ok_i64
  · exact ok_i64
  · exact ok_i64
  · exact ok_i64
  · exact ok_i64
  · exact ok_i64
  · exact ok_i64
  · exact ok_i64
  · exact ok_i64
  · exact ok_i64
  · exact ok_i64
  · exact ok_i64
theorem leaves32 : leaves Try.prog 4 32 = some [.int .i64, .int .i64, .int .i64, .int .i64, .int .i64, .int .i64, .int .i64, .int .i64] := by kernel_rfl
theorem job_reads (w : World) : Reads Try.prog w 32 JobD.cs (fun _ => True) := by
  intro H enc base sp held n cells x h
  have h := leaves_ok _ _ _ _ _ _ leaves32 h
  obtain ⟨c0, r0, rfl, l0, h⟩ := h.cons
  obtain ⟨c1, r1, rfl, l1, h⟩ := h.cons
  obtain ⟨c2, r2, rfl, l2, h⟩ := h.cons
  obtain ⟨c3, r3, rfl, l3, h⟩ := h.cons
  obtain ⟨c4, r4, rfl, l4, h⟩ := h.cons
  obtain ⟨c5, r5, rfl, l5, h⟩ := h.cons
  obtain ⟨c6, r6, rfl, l6, h⟩ := h.cons
  obtain ⟨c7, r7, rfl, l7, h⟩ := h.cons
  obtain rfl := h.nil
  obtain ⟨a0, rfl, w0⟩ := l0
  obtain ⟨a1, rfl, w1⟩ := l1
  obtain ⟨a2, rfl, w2⟩ := l2
  obtain ⟨a3, rfl, w3⟩ := l3
  obtain ⟨a4, rfl, w4⟩ := l4
  obtain ⟨a5, rfl, w5⟩ := l5
  obtain ⟨a6, rfl, w6⟩ := l6
  obtain ⟨a7, rfl, w7⟩ := l7
  refine ⟨⟨a0, a1, a2, a3, ⟨a4, a5, a6, a7⟩⟩, rfl, ?_, trivial⟩
  intro u hu
  simp only [JobD.cs, List.mem_cons, List.not_mem_nil, or_false] at hu
  rcases hu with rfl | rfl | rfl | rfl | rfl | rfl | rfl | rfl
  · exact ok_i64
  · exact ok_i64
  · exact ok_i64
  · exact ok_i64
  · exact ok_i64
  · exact ok_i64
  · exact ok_i64
  · exact ok_i64
theorem leaves28 : leaves Try.prog 4 28 = some [.int .i64, .int .i64, .int .i64, .int .i64, .sl 73, .sl 41, .sl 44, .sl 72, .sl 97] := by kernel_rfl
theorem look_reads (w : World) : Reads Try.prog w 28 LookD.cs (fun L => (∀ f ∈ L.view.l, wordM f) ∧ ∀ h ∈ L.ends.l, ∀ s ∈ h.slots.l, wordM s) := by
  intro H enc base sp held n cells x h
  have h := leaves_ok _ _ _ _ _ _ leaves28 h
  obtain ⟨c0, r0, rfl, l0, h⟩ := h.cons
  obtain ⟨c1, r1, rfl, l1, h⟩ := h.cons
  obtain ⟨c2, r2, rfl, l2, h⟩ := h.cons
  obtain ⟨c3, r3, rfl, l3, h⟩ := h.cons
  obtain ⟨c4, r4, rfl, l4, h⟩ := h.cons
  obtain ⟨c5, r5, rfl, l5, h⟩ := h.cons
  obtain ⟨c6, r6, rfl, l6, h⟩ := h.cons
  obtain ⟨c7, r7, rfl, l7, h⟩ := h.cons
  obtain ⟨c8, r8, rfl, l8, h⟩ := h.cons
  obtain rfl := h.nil
  obtain ⟨a0, rfl, w0⟩ := l0
  obtain ⟨a1, rfl, w1⟩ := l1
  obtain ⟨a2, rfl, w2⟩ := l2
  obtain ⟨a3, rfl, w3⟩ := l3
  obtain ⟨a4, rfl, o4, q4⟩ := slice_reads (k := 4) (by kernel_rfl) (by decide) (free_reads w) FreeD.sh l4
  obtain ⟨a5, rfl, o5, q5⟩ := slice_reads (k := 2) (by kernel_rfl) (by decide) (units_reads w) UnitsD.sh l5
  obtain ⟨a6, rfl, o6, q6⟩ := slice_reads (k := 5) (by kernel_rfl) (by decide) (hold_reads w) HoldD.sh l6
  obtain ⟨a7, rfl, o7, q7⟩ := slice_reads (k := 10) (by kernel_rfl) (by decide) (wait_reads w) WaitD.sh l7
  obtain ⟨a8, rfl, o8, q8⟩ := slice_reads (k := 16) (by kernel_rfl) (by decide) (record_reads w) RecordD.sh l8
  refine ⟨⟨a0, a1, a2, a3, a4, a5, a6, a7, a8⟩, rfl, ?_, ⟨q4, q6⟩⟩
  intro u hu
  simp only [LookD.cs, List.mem_cons, List.not_mem_nil, or_false] at hu
  rcases hu with rfl | rfl | rfl | rfl | rfl | rfl | rfl | rfl | rfl
  · exact ok_i64
  · exact ok_i64
  · exact ok_i64
  · exact ok_i64
  · exact o4
  · exact o5
  · exact o6
  · exact o7
  · exact o8
end Go.Proofs.Ytneddobmlcbabaa
