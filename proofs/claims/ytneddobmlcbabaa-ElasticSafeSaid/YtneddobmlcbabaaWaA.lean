/- A walk by symbols over the given program, a part of it: lemmas alone; what is claimed stands in the last text. No conditions of its own. -/
import Derived.AtR
import Derived.Below
import Derived.Laws.Cells
import Derived.Laws.CopyRow
import Derived.Laws.AppendOwn
set_option linter.unusedVariables false
set_option linter.unusedSimpArgs false
set_option linter.unusedVariables false
namespace Go.SE
open Go.RowKit

/-- Symbolic values: what a temporary or a cell holds. -/
inductive SV where
  | v (x : Value)
  | p (i off : Nat)
  | a (l : List SV)
  | t (l : List SV)
  | s (A : Option Addr) (n c k : Nat) (el : Nat → List SV)
  | e (ad : Addr) (l : List SV)
  | own (i : Nat)
  | q (i ix k off : Nat)
  | f (fn : Fn) (l : List SV)
  | y (i : Nat)
  | ifc (t : Nat) (u : SV)
  | m (i : Nat)
  | x (j : Nat)

/-- The block of a row, if it has any. -/
def rowBlk : Value → Option Nat
  | .slice (some a) _ (_ + 1) => some a.block
  | _ => none
structure Env where
  id : Nat → Nat
  val : Nat → Value
  unk : Nat → Value

mutual
def den (E : Env) : SV → Value
  | .v x => x
  | .p i off => .pointer (some ⟨E.id i, off, none⟩)
  | .a l => .agg (dens E l).toArray
  | .t l => .tuple (dens E l).toArray
  | .s A n c _ _ => .slice A n c
  | .e ad _ => .pointer (some ad)
  | .own i => E.val i
  | .q i ix k off => .pointer (some ⟨(rowBlk (E.val i)).getD 0, ix * k + off, none⟩)
  | .f fn l => .func fn #[] (dens E l).toArray
  | .y i => .func (.yield (E.id i)) #[] #[]
  | .ifc t u => .iface t (den E u)
  | .m i => .map (some (E.id i))
  | .x j => E.unk j
def dens (E : Env) : List SV → List Value
  | [] => []
  | u :: r => den E u :: dens E r
end
theorem dens_map (E : Env) (l : List SV) : dens E l = l.map (den E) := by
  induction l with
  | nil => rfl
  | cons u r ih => simp [dens, ih]

mutual
/-- What hangs on no environment. -/
def pure : SV → Bool
  | .v _ => true
  | .a l => pures l
  | .t l => pures l
  | .f _ l => pures l
  | .s .. => true
  | .e .. => true
  | _ => false
def pures : List SV → Bool
  | [] => true
  | u :: r => pure u && pures r
end
theorem pures_all (l : List SV) : pures l = l.all pure := by
  induction l with
  | nil => rfl
  | cons u r ih => simp [pures, ih]
def E0 : Env := ⟨fun _ => 0, fun _ => .bool false, fun _ => .bool false⟩
def den0 : SV → Value := den E0
mutual
theorem den_pure (E : Env) : ∀ u : SV, pure u = true → den E u = den0 u
  | .v _, _ => rfl
  | .a l, h => by simp only [den0, den, dens_pure E l h]
  | .t l, h => by simp only [den0, den, dens_pure E l h]
  | .s .., _ => rfl
  | .e .., _ => rfl
  | .p .., h => by simp [pure] at h
  | .own .., h => by simp [pure] at h
  | .q .., h => by simp [pure] at h
  | .f fn l, h => by simp only [den0, den, dens_pure E l h]
  | .y .., h => by simp [pure] at h
  | .ifc .., h => by simp [pure] at h
  | .m .., h => by simp [pure] at h
  | .x .., h => by simp [pure] at h
theorem dens_pure (E : Env) : ∀ l : List SV, pures l = true → dens E l = dens E0 l
  | [], _ => rfl
  | u :: r, h => by
    simp only [pures, Bool.and_eq_true] at h
    simp only [dens, den_pure E u h.1, den0, dens_pure E r h.2]
end

/-- One cell's worth, whatever the environment (whose values are cells). -/
def one : SV → Bool
  | .v x => x.oneCell'
  | .a _ => false
  | .t _ => false
  | _ => true

/-- What may be read through a value, in a world, outside of the blocks X. -/
inductive Ok (N : Nat) (X : Nat → Prop) (w : World) : SV → Prop where
  | v (x : Value) : Ok N X w (.v x)
  | p {i : Nat} (off : Nat) (hi : i < N) : Ok N X w (.p i off)
  | own {i : Nat} (hi : i < N) : Ok N X w (.own i)
  | q {i : Nat} (ix k off : Nat) (hi : i < N) : Ok N X w (.q i ix k off)
  | x {j : Nat} (hj : j < N) : Ok N X w (.x j)
  | y {i : Nat} (hi : i < N) : Ok N X w (.y i)
  | ifc {t : Nat} {u : SV} (h : Ok N X w u) : Ok N X w (.ifc t u)
  | m {i : Nat} (hi : i < N) : Ok N X w (.m i)
  | a {l : List SV} (h : ∀ u ∈ l, Ok N X w u) : Ok N X w (.a l)
  | t {l : List SV} (h : ∀ u ∈ l, Ok N X w u) : Ok N X w (.t l)
  | f {fn : Fn} {l : List SV} (h : ∀ u ∈ l, Ok N X w u) : Ok N X w (.f fn l)
  | s {A : Option Addr} {n c k : Nat} {el : Nat → List SV} (hm : n ≤ c) (hc : c ≤ 9223372036854775807)
      (h : ∀ i, i < n → ∃ ad, A = some ad ∧ ad.block < w.heap.size ∧ ¬ X ad.block ∧ (el i).length = k ∧ (∀ j u, (el i)[j]? = some u → w.cell? (ad.add (i * k + j)) = some (den0 u)))
      (hp : ∀ i, i < n → ∀ u ∈ el i, pure u = true ∧ one u = true) (ho : ∀ i, i < n → ∀ u ∈ el i, Ok N X w u) : Ok N X w (.s A n c k el)
  | e {ad : Addr} {l : List SV} (hs : ad.block < w.heap.size) (hX : ¬ X ad.block) (h : ∀ j u, l[j]? = some u → w.cell? (ad.add j) = some (den0 u))
      (hp : ∀ u ∈ l, pure u = true ∧ one u = true) (ho : ∀ u ∈ l, Ok N X w u) : Ok N X w (.e ad l)

theorem add_block (ad : Addr) (n : Nat) : (ad.add n).block = ad.block := by unfold Addr.add; split <;> rfl
theorem add_add (ad : Addr) (m n : Nat) : (ad.add m).add n = ad.add (m + n) := by
  unfold Addr.add
  by_cases h1 : m = 0 <;> by_cases h2 : n = 0 <;> simp [h1, h2, Nat.add_assoc]

/-- It stays so where the blocks outside of X that were there are as they were. -/
theorem Ok.move {N N' : Nat} {X X' : Nat → Prop} {w w' : World} {u : SV} (h : Ok N X w u) (hN : N ≤ N') (hs : w.heap.size ≤ w'.heap.size)
    (hX : ∀ b, b < w.heap.size → ¬ X b → ¬ X' b ∧ w'.heap[b]? = w.heap[b]?) : Ok N' X' w' u := by
  induction h with
  | v => exact .v _
  | p off hi => exact .p _ (by omega)
  | own hi => exact .own (by omega)
  | q ix k off hi => exact .q _ _ _ (by omega)
  | x hj => exact .x (by omega)
  | y hi => exact .y (by omega)
  | ifc _ ih => exact .ifc ih
  | m hi => exact .m (by omega)
  | a _ ih => exact .a ih
  | t _ ih => exact .t ih
  | f _ ih => exact .f ih
  | @s A n c k el hm hc h hp _ ih =>
    refine .s hm hc (fun i hi => ?_) hp ih
    obtain ⟨ad, rfl, hlt, hx, hl, hr⟩ := h i hi
    obtain ⟨h1, h2⟩ := hX _ hlt hx
    exact ⟨ad, rfl, Nat.lt_of_lt_of_le hlt hs, h1, hl, fun j u hu => (World.cell?_of_block (w := w) (by rw [add_block]; exact h2)).trans (hr j u hu)⟩
  | @e ad l hlt hx h hp _ ih =>
    obtain ⟨h1, h2⟩ := hX _ hlt hx
    exact .e (Nat.lt_of_lt_of_le hlt hs) h1 (fun j u hu => (World.cell?_of_block (w := w) (by rw [add_block]; exact h2)).trans (h j u hu)) hp ih

/-! ### objects and states -/
inductive Ob where
  | cells (cs : List SV) (ty : TypeId)
  | row (e k n : Nat) (el : Nat → List SV)
  | mark
  | lp (l : Nat) (r : Loop)
  | mp (kk : Bool) (es : List (List Int × SV))
  | gone

def flat (n : Nat) (el : Nat → List SV) : List SV := (List.range n).flatMap el

/-- A frame that waits: its values, and what is known of them. -/
structure Sus where
  a : Act
  tm : List (Nat × SV)
  nt : Nat
  df : List Nat
structure St where
  tm : List (Nat × SV)
  ob : List (Nat × Ob)
  nt : Nat
  no : Nat
  df : List Nat := []
  sus : List Sus := []

def look : List (Nat × SV) → Nat → Option SV
  | [], _ => none
  | (k, u) :: r, n => if k = n then some u else look r n
def nth : List (Nat × Ob) → Nat → Option Ob
  | [], _ => none
  | (k, o) :: r, i => if k = i then some o else nth r i
def upd : List (Nat × Ob) → Nat → Ob → List (Nat × Ob)
  | [], _, _ => []
  | (k, o) :: r, i, x => if k = i then (k, x) :: r else (k, o) :: upd r i x

/-- A slice that has its row for itself, from the row's begin on (or no cells at all). -/
def Row (w : World) (e : TypeId) (k : Nat) (v : Value) (n : Nat) (xs : List Value) : Prop :=
  xs.length = n * k ∧ ((∃ A, v = .slice A 0 0 ∧ n = 0) ∨ ∃ g c cur, v = .slice (some ⟨g, 0, none⟩) n (c + 1) ∧ w.heap[g]? = some (.cells cur e (0, 0)) ∧ n ≤ c + 1 ∧ c + 1 ≤ maxLen ∧ cur.size = (c + 1) * k ∧ cur.toList.take (n * k) = xs)
/-- A map's key: an int (kk), or a struct or an array of ints. -/
def keyV (kk : Bool) (xs : List Int) : Value := bif kk then .int .i64 (xs.headD 0) else .agg (xs.map fun x => Value.int .i64 x).toArray
/-- A map's memory. -/
def MapOk (w : World) (b : Nat) (kk : Bool) (l : List (List Int × Value)) : Prop :=
  ∃ ents clock, w.heap[b]? = some (.map ents clock) ∧ ents.toList.map (fun e => (e.key, e.val)) = l.map (fun x => (keyV kk x.1, x.2)) ∧ (ents.toList.map fun e => e.born).Nodup ∧ ∀ e ∈ ents.toList, e.born < clock
def blk (E : Env) (i : Nat) : Ob → Option Nat
  | .row .. => rowBlk (E.val i)
  | .gone => none
  | _ => some (E.id i)
/-- the blocks that the objects have -/
def Has (E : Env) (ob : List (Nat × Ob)) (b : Nat) : Prop := ∃ i o, nth ob i = some o ∧ blk E i o = some b

/-- the blocks that nothing else may look into: the objects', and those of XC -/
def Ex (XC : Nat → Prop) (E : Env) (ob : List (Nat × Ob)) (b : Nat) : Prop := Has E ob b ∨ XC b

def ObOk (E : Env) (w : World) (i : Nat) : Ob → Prop
  | .cells cs ty => w.heap[E.id i]? = some (.cells (dens E cs).toArray ty (0, 0)) ∧ ∀ u ∈ cs, one u = true
  | .row e k n el => Row w e k (E.val i) n (dens E0 (flat n el)) ∧ (∀ j, j < n → (el j).length = k ∧ ∀ u ∈ el j, one u = true ∧ pure u = true) ∧ 0 < k
  | .mark => w.heap[E.id i]? = some (.deferred (some []))
  | .lp l r => E.id i = l ∧ w.heap[E.id i]? = some (.loop r)
  | .mp kk es => MapOk w (E.id i) kk (es.map fun x => (x.1, den E x.2))
  | .gone => True
def ObSv (N : Nat) (X : Nat → Prop) (w : World) : Ob → Prop
  | .cells cs _ => ∀ u ∈ cs, Ok N X w u
  | .row _ _ n el => ∀ j, j < n → ∀ u ∈ el j, Ok N X w u
  | .mp _ es => ∀ x ∈ es, Ok N X w x.2
  | _ => True

/-- The streams are as they were; of what was there when all began (w0) nothing has turned but X0. -/
structure Fr (X0 : Nat → Prop) (w0 w : World) : Prop where
  os : w.os = w0.os
  tape : w.tape = w0.tape
  output : w.output = w0.output
  size : w0.heap.size ≤ w.heap.size
  block : ∀ b, b < w0.heap.size → ¬ X0 b → w.heap[b]? = w0.heap[b]?

def marks (E : Env) (l : List Nat) : List Deferred := l.map fun i => { target := .collected (E.id i), args := #[] }
/-- Of a frame. -/
structure FrOk (E : Env) (w : World) (N : Nat) (X : Nat → Prop) (s : Sus) : Prop where
  size : s.a.tmps.size = s.nt
  defers : s.a.defers = marks E s.df
  dfl : ∀ i ∈ s.df, i < N
  tm : ∀ t u, look s.tm t = some u → t < s.nt → s.a.tmps[t]? = some (den E u)
  oks : ∀ t u, look s.tm t = some u → Ok N X w u
/-- Of memory. -/
structure Mem (XC X0 : Nat → Prop) (w0 : World) (obs : List (Nat × Ob)) (N : Nat) (E : Env) (w : World) : Prop where
  fr : Fr X0 w0 w
  ob : ∀ i o, nth obs i = some o → ObOk E w i o
  lt : ∀ b, Has E obs b → b < w.heap.size ∧ (X0 b ∨ w0.heap.size ≤ b)
  ne : ∀ i j o o' b, nth obs i = some o → nth obs j = some o' → blk E i o = some b → blk E j o' = some b → i = j
  no : ∀ i o, nth obs i = some o → i < N
  oko : ∀ i o, nth obs i = some o → ObSv N (Ex XC E obs) w o
  unk : ∀ j, (E.unk j).oneCell' = true
  val : ∀ j, (E.val j).oneCell' = true
def St.cur (st : St) (a : Act) : Sus := ⟨a, st.tm, st.nt, st.df⟩
structure Models (XC X0 : Nat → Prop) (w0 : World) (st : St) (E : Env) (a : Act) (w : World) : Prop where
  mem : Mem XC X0 w0 st.ob st.no E w
  cur : FrOk E w st.no (Ex XC E st.ob) (st.cur a)
  sus : ∀ s ∈ st.sus, FrOk E w st.no (Ex XC E st.ob) s

/-! ### what is known of types -/
inductive Z where
  | i (k : IntKind) | b | sl | np | mp | fn | ifc | str
  deriving DecidableEq
def Z.val : Z → Value
  | .i k => .int k 0
  | .b => .bool false
  | .sl => .slice none 0 0
  | .np => .pointer none
  | .mp => .map none
  | .fn => .nilFunc
  | .ifc => .nilIface
  | .str => .string ⟨#[]⟩
inductive TD where
  | word | bool | int (k : IntKind) | struct (fs : List (Nat × Nat)) | arr (n elem : Nat) | sl (elem : Nat)
  deriving DecidableEq
structure TI where
  size : Nat
  bytes : Nat
  d : TD
  zero : List Z
  eqs : Option (List IntKind) := none
def TI.agg (ti : TI) : Bool := match ti.d with | .struct _ => true | .arr .. => true | _ => false
def TD.fits : TD → TypeDesc → Prop
  | .word, d => (match d with | .struct _ | .array _ _ => False | _ => True)
  | .bool, d => d = .bool
  | .int k, d => d = .int k
  | .struct fs, d => ∃ f, d = .struct f ∧ f.toList.map (fun x => (x.offset, x.type)) = fs
  | .arr n e, d => d = .array n e
  | .sl e, d => d = .slice e
structure TIok (P : Program) (t : TypeId) (ti : TI) : Prop where
  info : ∃ i, P.info? t = some i ∧ i.size = ti.size ∧ i.bytes = ti.bytes ∧ ∃ z, i.zero = some z ∧ z.cells.toList = ti.zero.map Z.val
  und : ∃ d, P.underlying t = some d ∧ ti.d.fits d
  zl : ti.zero.length = ti.size
def TabOk (P : Program) (T : List (Nat × TI)) : Prop := ∀ t ti, (t, ti) ∈ T → TIok P t ti
def ty : List (Nat × TI) → Nat → Option TI
  | [], _ => none
  | (k, ti) :: r, t => if k = t then some ti else ty r t
theorem ty_mem {T : List (Nat × TI)} {t : Nat} {ti : TI} (h : ty T t = some ti) : (t, ti) ∈ T := by
  induction T with
  | nil => simp [ty] at h
  | cons x r ih =>
    obtain ⟨k, u⟩ := x
    simp only [ty] at h
    split at h
    · rename_i hk; subst hk; simp at h; subst h; exact List.mem_cons_self
    · exact List.mem_cons_of_mem _ (ih h)

theorem den_env {N : Nat} {X : Nat → Prop} {w : World} {E E' : Env} {u : SV} (h : Ok N X w u) (he : ∀ i, i < N → E.id i = E'.id i ∧ E.val i = E'.val i ∧ E.unk i = E'.unk i) : den E u = den E' u := by
  have lst : ∀ l : List SV, (∀ u ∈ l, den E u = den E' u) → dens E l = dens E' l := fun l hl => by
    rw [dens_map, dens_map]; exact List.map_congr_left hl
  induction h with
  | v => rfl
  | p off hi => simp only [den, (he _ hi).1]
  | own hi => simp only [den, (he _ hi).2.1]
  | q ix k off hi => simp only [den, (he _ hi).2.1]
  | x hj => simp only [den, (he _ hj).2.2]
  | y hi => simp only [den, (he _ hi).1]
  | ifc _ ih => simp only [den, ih]
  | m hi => simp only [den, (he _ hi).1]
  | a _ ih => simp only [den, lst _ ih]
  | t _ ih => simp only [den, lst _ ih]
  | f _ ih => simp only [den, lst _ ih]
  | s => rfl
  | e => rfl
/-! ### the executor -/
def ofVal : Value → SV
  | .agg cs => .a (cs.toList.map .v)
  | .tuple cs => .t (cs.toList.map .v)
  | x => .v x
theorem den_ofVal (E : Env) (x : Value) : den E (ofVal x) = x := by
  have h : ∀ l : List Value, dens E (l.map .v) = l := fun l => by
    rw [dens_map, List.map_map]; conv => rhs; rw [← List.map_id l]
    rfl
  cases x <;> simp [ofVal, den, h]
theorem ok_ofVal (N : Nat) (X : Nat → Prop) (w : World) (x : Value) : Ok N X w (ofVal x) := by
  cases x <;> first | exact .v _ | skip
  · exact .a fun u hu => by obtain ⟨_, _, rfl⟩ := List.mem_map.1 hu; exact .v _
  · exact .t fun u hu => by obtain ⟨_, _, rfl⟩ := List.mem_map.1 hu; exact .v _

def cellsOf : SV → List SV
  | .a l => l
  | u => [u]
/-- The spine of a list, laid open. -/
def force {α β : Type} : List α → (List α → β) → β
  | [], k => k []
  | x :: r, k => force r fun r' => k (x :: r')
theorem force_eq {α β : Type} (l : List α) (k : List α → β) : force l k = k l := by
  induction l generalizing k with
  | nil => rfl
  | cons x r ih => simp only [force, ih]

def ev (st : St) : Operand → Option SV
  | .tmp t => if t < st.nt then look st.tm t else none
  | .const v => some (ofVal v)
  | .func f => some (.f (.func f) [])
  | .global _ => none
def evs (st : St) : List Operand → Option (List SV)
  | [] => some []
  | o :: r => match ev st o with
    | some u => match evs st r with
      | some l => some (u :: l)
      | none => none
    | none => none

inductive BR where
  | ok (u : SV)
  | need (p : Prop) (u : SV)
  | no
def bw (op : BinOp) (k : IntKind) (x y : Int) : Int :=
  match op with
  | .and => k.wrap (BitVec.ofInt k.bits x &&& BitVec.ofInt k.bits y).toNat
  | .or => k.wrap (BitVec.ofInt k.bits x ||| BitVec.ofInt k.bits y).toNat
  | .xor => k.wrap (BitVec.ofInt k.bits x ^^^ BitVec.ofInt k.bits y).toNat
  | _ => k.wrap (BitVec.ofInt k.bits x &&& ~~~ BitVec.ofInt k.bits y).toNat
/-- '==' of rows of integers, cell by cell -/
def eqb : List IntKind → List SV → List SV → Option Bool
  | [k], [.v (.int k1 x)], [.v (.int k2 y)] => if k1 = k ∧ k2 = k then some (x == y) else none
  | k :: ks, .v (.int k1 x) :: r, .v (.int k2 y) :: s => if k1 = k ∧ k2 = k then (match eqb ks r s with
    | some b => some (x == y && b)
    | none => none) else none
  | _, _, _ => none
def binI (op : BinOp) (k : IntKind) (x y : Int) : BR :=
  match op with
  | .add => .ok (.v (.int k (k.wrap (x + y))))
  | .sub => .ok (.v (.int k (k.wrap (x - y))))
  | .mul => .ok (.v (.int k (k.wrap (x * y))))
  | .quo => .need (y ≠ 0) (.v (.int k (k.wrap (x.tdiv y))))
  | .rem => .need (y ≠ 0) (.v (.int k (x.tmod y)))
  | .and => .ok (.v (.int k (bw .and k x y)))
  | .or => .ok (.v (.int k (bw .or k x y)))
  | .xor => .ok (.v (.int k (bw .xor k x y)))
  | .andNot => .ok (.v (.int k (bw .andNot k x y)))
  | .eql => .ok (.v (.bool (x == y)))
  | .neq => .ok (.v (.bool (x != y)))
  | .lss => .ok (.v (.bool (decide (x < y))))
  | .leq => .ok (.v (.bool (decide (x ≤ y))))
  | .gtr => .ok (.v (.bool (decide (x > y))))
  | .geq => .ok (.v (.bool (decide (x ≥ y))))
  | _ => .no

def St.put (st : St) (d : Option Tmp) (u : SV) : St :=
  match d with
  | none => st
  | some d => { st with tm := (d, u) :: st.tm }
inductive XR where
  | ok (st : St)
  | need (p : Prop) (st : St)
  | call (f : Nat) (args : List SV)
  | yield (i : Nat) (args : List SV)
  | no
def XR.of (st : St) (d : Option Tmp) : Option SV → XR
  | some u => .ok (st.put d u)
  | none => .no
def St.new (st : St) (d : Option Tmp) (cs : List SV) (t : Nat) : St :=
  { (st.put d (.p st.no 0)) with ob := (st.no, .cells cs t) :: st.ob, no := st.no + 1 }
def goneOf (old : Option Nat) (obs : List (Nat × Ob)) : List (Nat × Ob) := match old with | some i => upd obs i .gone | none => obs
def St.row (st : St) (d : Option Tmp) (e k n : Nat) (el : Nat → List SV) (old : Option Nat) : St :=
  { (st.put d (.own st.no)) with ob := (st.no, .row e k n el) :: goneOf old st.ob, no := st.no + 1 }
def rowEl (k : Nat) (L : List SV) : Nat → List SV := fun j => (L.drop (j * k)).take k
def appEl (n : Nat) (el el' : Nat → List SV) : Nat → List SV := fun j => if j < n then el j else el' (j - n)
def setEl (ix : Nat) (l : List SV) (el : Nat → List SV) : Nat → List SV := fun j => if j = ix then l else el j
def notOwn (i : Nat) : SV → Bool
  | .own j => j != i
  | _ => true
/-- What may be read of a slice: how many elements of k cells, and which. -/
def rowOf (st : St) (k : Nat) : SV → Option (Nat × (Nat → List SV))
  | .s _ n _ k' el => if k' = k then some (n, el) else none
  | .own j => match nth st.ob j with
    | some (.row _ k' n el) => if k' = k then some (n, el) else none
    | _ => none
  | .v (.slice none 0 0) => some (0, fun _ => [])
  | _ => none
/-- A value of so many cells out of a row of cells. -/
def pickC (agg : Bool) (m : Nat) (l : List SV) (k : SV → XR) : XR :=
  if m ≤ l.length then
    if agg then force (l.take m) fun l' => k (.a l')
    else match l with
      | u :: _ => if m = 1 then k u else .no
      | [] => .no
  else .no
/-- l, from off on overwritten by cs -/
def splice (l : List SV) (off : Nat) (cs : List SV) : List SV := l.take off ++ cs ++ l.drop (off + cs.length)
def places (T : List (Nat × TI)) : TD → Nat → Option (Nat × Nat)
  | .struct fs, i => match fs[i]? with
    | some (off, t) => match ty T t with
      | some ti => some (off, ti.size)
      | none => none
    | none => none
  | .arr _ e, i => match ty T e with
    | some ti => some (i * ti.size, ti.size)
    | none => none
  | _, _ => none
def tysOk (T : List (Nat × TI)) : TD → Bool
  | .struct fs => fs.all fun x => (ty T x.2).isSome
  | .arr _ e => (ty T e).isSome
  | _ => false
def fillS (T : List (Nat × TI)) (d : TD) (st : St) : List (Nat × Operand) → List SV → (List SV → XR) → XR
  | [], cs, k => k cs
  | (i, x) :: r, cs, k =>
    match places T d i, ev st x with
    | some (off, size), some u =>
      if (cellsOf u).length = size ∧ off + size ≤ cs.length ∧ (cellsOf u).all one = true then force (splice cs off (cellsOf u)) fun cs' => fillS T d st r cs' k else .no
    | _, _ => .no
def binS (T : List (Nat × TI)) (op : BinOp) (t : Nat) (x y : SV) : BR :=
  match x, y with
  | .v (.int k a), .v (.int k' b) =>
    match op with
    | .shl => .need (0 ≤ b) (.v (.int k (k.wrap (a * 2 ^ (min b.toNat k.bits)))))
    | .shr => .need (0 ≤ b) (.v (.int k (a.fdiv (2 ^ (min b.toNat k.bits)))))
    | op => if k = k' then binI op k a b else .no
  | .v (.bool a), .v (.bool b) =>
    match ty T t with
    | some { d := .bool, .. } =>
      match op with
      | .eql => .ok (.v (.bool (a == b)))
      | .neq => .ok (.v (.bool (!(a == b))))
      | _ => .no
    | _ => .no
  | .a l, .a l' =>
    match ty T t with
    | some { eqs := some ks, .. } =>
      match eqb ks l l' with
      | some b => match op with
        | .eql => .ok (.v (.bool b))
        | .neq => .ok (.v (.bool (!b)))
        | _ => .no
      | none => .no
    | _ => .no
  | .s A _ _ _ _, .v (.slice none 0 0) =>
    match ty T t with
    | some { d := .sl _, .. } =>
      match op with
      | .eql => .ok (.v (.bool A.isNone))
      | .neq => .ok (.v (.bool (!A.isNone)))
      | _ => .no
    | _ => .no
  | _, _ => .no
def unS (op : UnOp) (x : SV) : Option SV :=
  match op, x with
  | .neg, .v (.int k a) => some (.v (.int k (k.wrap (0 - a))))
  | .xor, .v (.int k a) => some (.v (.int k (bw .xor k (if k.signed then -1 else k.max) a)))
  | .not, .v (.bool b) => some (.v (.bool !b))
  | _, _ => none
/-- one operation -/
def exec (T : List (Nat × TI)) (st : St) (o : Oper) : XR :=
  match o.op with
  | .move x => XR.of st o.dst (ev st x)
  | .assign x => XR.of st o.dst (ev st x)
  | .pick c x y =>
    match ev st c with
    | some (.v (.bool t)) =>
      match ev st x, ev st y with
      | some (.v (.bool x)), some (.v (.bool y)) => .ok (st.put o.dst (.v (.bool (bif t then x else y))))
      | ux, uy => match t with
        | true => XR.of st o.dst ux
        | false => XR.of st o.dst uy
    | _ => .no
  | .alloc t =>
    match ty T t with
    | some ti => force (ti.zero.map fun z => SV.v z.val) fun cs => .ok (st.new o.dst cs t)
    | none => .no
  | .box t x =>
    match ev st x with
    | some u => if (cellsOf u).all one = true then .ok (st.new o.dst (cellsOf u) t) else .no
    | none => .no
  | .build t parts =>
    match ty T t with
    | some ti => if tysOk T ti.d = true then force (ti.zero.map fun z => SV.v z.val) fun cs => fillS T ti.d st parts.toList cs fun cs' => .ok (st.put o.dst (.a cs')) else .no
    | none => .no
  | .load t x =>
    match ty T t with
    | some ti =>
      match ev st x with
      | some (.p i off) =>
        match nth st.ob i with
        | some (.cells cs _) => pickC ti.agg ti.size (cs.drop off) fun u => .ok (st.put o.dst u)
        | _ => .no
      | some (.e _ l) => pickC ti.agg ti.size l fun u => .ok (st.put o.dst u)
      | some (.q i ix k off) =>
        match nth st.ob i with
        | some (.row _ k' n el) =>
          if k' = k then
            match pickC ti.agg ti.size ((el ix).drop off) fun u => .ok (st.put o.dst u) with
            | .ok st' => .need (ix < n) st'
            | _ => .no
          else .no
        | _ => .no
      | _ => .no
    | none => .no
  | .store t x y =>
    match ty T t with
    | some ti =>
      match ev st x, ev st y with
      | some (.p i off), some u =>
        match nth st.ob i with
        | some (.cells cs t') =>
          if (cellsOf u).length = ti.size ∧ off + ti.size ≤ cs.length ∧ (cellsOf u).all one = true then
            force (splice cs off (cellsOf u)) fun cs' => .ok { (st.put o.dst (.v undef)) with ob := upd st.ob i (.cells cs' t') }
          else .no
        | _ => .no
      | some (.q i ix k off), some u =>
        match nth st.ob i with
        | some (.row e k' n el) =>
          if k' = k ∧ (cellsOf u).length = ti.size ∧ off + ti.size ≤ k ∧ (cellsOf u).all one = true ∧ pures (cellsOf u) = true then
            if off = 0 ∧ ti.size = k then .need (ix < n) { (st.put o.dst (.v undef)) with ob := upd st.ob i (.row e k n (setEl ix (cellsOf u) el)) } else
            force (splice (el ix) off (cellsOf u)) fun cs' => .need (ix < n) { (st.put o.dst (.v undef)) with ob := upd st.ob i (.row e k n (setEl ix cs' el)) }
          else .no
        | _ => .no
      | _, _ => .no
    | none => .no
  | .buildSlice t n parts =>
    match ty T t with
    | some { d := .sl e, .. } =>
      match ty T e with
      | some ei =>
        if 0 < ei.size ∧ n ≤ 4096 ∧ ei.size ≤ 4096 then
          force ((List.range n).flatMap fun _ => ei.zero.map fun z => SV.v z.val) fun cs =>
          fillS T (.arr n e) st parts.toList cs fun cs' =>
          if pures cs' = true then .ok (st.row o.dst e ei.size n (rowEl ei.size cs') none) else .no
        else .no
      | none => .no
    | _ => .no
  | .slice t x lo hi none =>
    match ty T t with
    | some { d := .sl e, .. } =>
      match ty T e with
      | some ei =>
        match ev st x with
        | some (.s A n c k el) =>
          if k = ei.size then
            match (match lo with | some y => (match ev st y with | some (.v (.int _ i)) => some i | _ => none) | none => some 0),
                  (match hi with | some y => (match ev st y with | some (.v (.int _ i)) => some i | _ => none) | none => some (n : Int)) with
            | some l, some h => .need (0 ≤ l ∧ l ≤ h ∧ h ≤ n) (st.put o.dst (.s (if c = l.toNat then A else A.map fun a => a.add (l.toNat * k)) (h.toNat - l.toNat) (c - l.toNat) k fun j => el (l.toNat + j)))
            | _, _ => .no
          else .no
        | _ => .no
      | none => .no
    | _ => .no
  | .nilCheck x =>
    match ev st x with
    | some (.p i off) => .ok (st.put o.dst (.p i off))
    | some (.e ad l) => .ok (st.put o.dst (.e ad l))
    | some (.q i ix k off) => .ok (st.put o.dst (.q i ix k off))
    | some (.f (.func f) l) => .ok (st.put o.dst (.f (.func f) l))
    | _ => .no
  | .binOp op t x y _ =>
    match ev st x, ev st y with
    | some x, some y => match binS T op t x y with
      | .ok u => .ok (st.put o.dst u)
      | .need p u => .need p (st.put o.dst u)
      | .no => .no
    | _, _ => .no
  | .unOp op _ x =>
    match ev st x with
    | some x => XR.of st o.dst (unS op x)
    | none => .no
  | .convert s d x =>
    match ev st x, ty T s, ty T d with
    | some (.v (.int _ a)), some _, some { d := .int k, .. } => .ok (st.put o.dst (.v (.int k (k.wrap a))))
    | _, _, _ => .no
  | .makeFunc fn first captured =>
    match first.toList, evs st captured.toList with
    | [], some l => .ok (st.put o.dst (.f fn l))
    | _, _ => .no
  | .makeInterface t x =>
    match ty T t with
    | some ti =>
      match ti.d, ev st x with
      | .word, _ => .no
      | _, some u => .ok (st.put o.dst (.ifc t u))
      | _, none => .no
    | none => .no
  | .fieldAddr t x i =>
    match ty T t with
    | some { d := .struct fs, .. } =>
      match fs[i]? with
      | some (off, ft) =>
        match ty T ft with
        | some fi =>
          if fi.size = 0 then .no else
          match ev st x with
          | some (.p j o2) => .ok (st.put o.dst (.p j (o2 + off)))
          | some (.e ad l) => force (l.drop off) fun l' => .ok (st.put o.dst (.e (ad.add off) l'))
          | some (.q j ix k o2) => .ok (st.put o.dst (.q j ix k (o2 + off)))
          | _ => .no
        | none => .no
      | none => .no
    | _ => .no
  | .field t x i =>
    match ty T t with
    | some { d := .struct fs, .. } =>
      match fs[i]? with
      | some (off, ft) =>
        match ty T ft, ev st x with
        | some fi, some (.a l) => pickC fi.agg fi.size (l.drop off) fun u => .ok (st.put o.dst u)
        | _, _ => .no
      | none => .no
    | _ => .no
  | .indexAddr t x ix =>
    match ty T t with
    | some { d := .sl e, .. } =>
      match ty T e with
      | some ei =>
        match ev st x, ev st ix with
        | some (.s A n _ k el), some (.v (.int _ i)) =>
          if k = ei.size then force (el i.toNat) fun l => .need (0 ≤ i ∧ i < n) (st.put o.dst (.e ((A.getD default).add (i.toNat * k)) l)) else .no
        | some (.own j), some (.v (.int _ i)) =>
          match nth st.ob j with
          | some (.row _ k n _) => if k = ei.size then .need (0 ≤ i ∧ i < n) (st.put o.dst (.q j i.toNat k 0)) else .no
          | _ => .no
        | _, _ => .no
      | none => .no
    | some { d := .arr n e, .. } =>
      match ty T e with
      | some ei =>
        match ev st x, ev st ix with
        | some (.p j off), some (.v (.int _ i)) =>
          if 0 ≤ i ∧ i < n then .ok (st.put o.dst (.p j (off + i.toNat * ei.size))) else .no
        | _, _ => .no
      | none => .no
    | _ => .no
  | .index t x ix =>
    match ty T t with
    | some { d := .arr n e, .. } =>
      match ty T e with
      | some ei =>
        match ev st x, ev st ix with
        | some (.a l), some (.v (.int _ i)) =>
          if 0 ≤ i ∧ i < n then pickC ei.agg ei.size (l.drop (i.toNat * ei.size)) fun u => .ok (st.put o.dst u) else .no
        | _, _ => .no
      | none => .no
    | _ => .no
  | .extract x i =>
    match ev st x with
    | some (.t l) => XR.of st o.dst l[i]?
    | _ => .no
  | .call { callee := .value f, args, .. } =>
    match ev st f, evs st args.toList with
    | some (.f (.func g) caps), some l => .call g (l ++ caps)
    | some (.y i), some l => .yield i l
    | _, _ => .no
  | .call { callee := .builtin .append, args, argTypes } =>
    match argTypes.toList with
    | [t, t'] => if t = t' then
      match ty T t with
      | some { d := .sl e, .. } =>
        match ty T e with
        | some ei =>
          match evs st args.toList with
          | some [.own i, x] =>
            match nth st.ob i, rowOf st ei.size x with
            | some (.row e' k n el), some (m, el') =>
              if e' = e ∧ k = ei.size ∧ notOwn i x = true then .need (n + m ≤ maxLen ∧ (n + m) * ei.bytes ≤ 140737488355328) (st.row o.dst e k (n + m) (appEl n el el') (some i)) else .no
            | _, _ => .no
          | some [.v (.slice none 0 0), x] =>
            match rowOf st ei.size x with
            | some (m, el') => if 0 < ei.size then .need (m ≤ maxLen ∧ m * ei.bytes ≤ 140737488355328) (st.row o.dst e ei.size m el' none) else .no
            | none => .no
          | some [.s _ 0 0 _ _, x] =>
            match rowOf st ei.size x with
            | some (m, el') => if 0 < ei.size then .need (m ≤ maxLen ∧ m * ei.bytes ≤ 140737488355328) (st.row o.dst e ei.size m el' none) else .no
            | none => .no
          | _ => .no
        | none => .no
      | _ => .no
      else .no
    | _ => .no
  | .call { callee := .builtin .len, args, argTypes } =>
    match argTypes.toList with
    | [t] => match ty T t with
      | some { d := .sl _, .. } =>
        match evs st args.toList with
        | some [.s _ n _ _ _] => .ok (st.put o.dst (.v (.int .i64 n)))
        | some [.v (.slice _ n _)] => .ok (st.put o.dst (.v (.int .i64 n)))
        | some [.own j] =>
          match nth st.ob j with
          | some (.row _ _ n _) => .ok (st.put o.dst (.v (.int .i64 n)))
          | _ => .no
        | _ => .no
      | _ => .no
    | _ => .no
  | .call { callee := .builtin .min, args, .. } =>
    match evs st args.toList with
    | some [.v (.int k x), .v (.int _ y)] => .ok (st.put o.dst (.v (.int k (if y < x then y else x))))
    | _ => .no
  | .call { callee := .builtin .max, args, .. } =>
    match evs st args.toList with
    | some [.v (.int k x), .v (.int _ y)] => .ok (st.put o.dst (.v (.int k (if x < y then y else x))))
    | _ => .no
  | _ => .no
end Go.SE
set_option linter.unusedVariables false
set_option linter.unusedSimpArgs false
namespace Go.SE
open Go.RowKit

section
variable {P : Program} {T : List (Nat × TI)} {XC X0 : Nat → Prop} {w0 : World} {st : St} {E E' : Env} {a : Act} {w w' : World} {N N' : Nat} {X X' : Nat → Prop} {obs : List (Nat × Ob)}

theorem Fr.refl (X0 : Nat → Prop) (w : World) : Fr X0 w w := ⟨rfl, rfl, rfl, Nat.le_refl _, fun _ _ _ => rfl⟩
def EnvEq (N : Nat) (E E' : Env) : Prop := ∀ i, i < N → E.id i = E'.id i ∧ E.val i = E'.val i ∧ E.unk i = E'.unk i
theorem EnvEq.refl (N : Nat) (E : Env) : EnvEq N E E := fun _ _ => ⟨rfl, rfl, rfl⟩
theorem dens_env {l : List SV} (h : ∀ u ∈ l, Ok N X w u) (he : EnvEq N E E') : dens E l = dens E' l := by
  rw [dens_map, dens_map]; exact List.map_congr_left fun u hu => den_env (h u hu) he
theorem marks_env {l : List Nat} (h : ∀ i ∈ l, i < N) (he : EnvEq N E E') : marks E l = marks E' l :=
  List.map_congr_left fun i hi => by rw [(he i (h i hi)).1]
theorem blk_env {i : Nat} (hi : i < N) (he : EnvEq N E E') (o : Ob) : blk E' i o = blk E i o := by
  have := he i hi
  cases o <;> simp [blk, this.1, this.2.1]

theorem FrOk.move {s : Sus} (h : FrOk E w N X s) (hN : N ≤ N') (he : EnvEq N E E') (mv : ∀ u, Ok N X w u → Ok N' X' w' u) : FrOk E' w' N' X' s where
  size := h.size
  defers := h.defers.trans (marks_env h.dfl he)
  dfl := fun i hi => Nat.lt_of_lt_of_le (h.dfl i hi) hN
  tm := fun t u hu ht => by rw [h.tm t u hu ht, den_env (h.oks t u hu) he]
  oks := fun t u hu => mv u (h.oks t u hu)
theorem Models.trans {ob' : List (Nat × Ob)} (hM : Models XC X0 w0 st E a w) (hm : Mem XC X0 w0 ob' N' E' w') (hN : st.no ≤ N') (he : EnvEq st.no E E') (mv : ∀ u, Ok st.no (Ex XC E st.ob) w u → Ok N' (Ex XC E' ob') w' u) :
    Models XC X0 w0 { st with ob := ob', no := N' } E' a w' :=
  ⟨hm, hM.cur.move hN he mv, fun s hs => (hM.sus s hs).move hN he mv⟩

theorem Models.put (hM : Models XC X0 w0 st E a w) (d : Option Tmp) {u : SV} (hu : Ok st.no (Ex XC E st.ob) w u) {v : Value} (hv : v = den E u) : Models XC X0 w0 (st.put d u) E (a.put d v) w := by
  subst hv
  cases d with
  | none => exact hM
  | some d =>
    refine ⟨hM.mem, ⟨by simpa [Act.put, St.put, St.cur] using hM.cur.size, hM.cur.defers, hM.cur.dfl, fun t x hx ht => ?_, fun t x hx => ?_⟩, hM.sus⟩
    · simp only [St.put, look, St.cur] at hx ht
      simp only [Act.put, Array.getElem?_setIfInBounds, St.cur]
      split at hx
      · rename_i he
        subst he
        have := hM.cur.size
        simp [St.cur] at this
        simp at hx
        subst hx
        simp [this, ht]
      · rename_i he
        rw [if_neg he]
        exact hM.cur.tm t x hx ht
    · simp only [St.put, look, St.cur] at hx
      split at hx
      · simp at hx; subst hx; exact hu
      · exact hM.cur.oks t x hx

theorem ev_ok (hM : Models XC X0 w0 st E a w) {x : Operand} {u : SV} (h : ev st x = some u) : a.eval x = den E u ∧ Ok st.no (Ex XC E st.ob) w u := by
  cases x with
  | tmp t =>
    simp only [ev] at h
    split at h
    · rename_i ht
      have := hM.cur.tm t u h ht
      have h2 : a.tmps[t]? = some (den E u) := this
      exact ⟨by simp [Act.eval, Array.getD_eq_getD_getElem?, h2], hM.cur.oks t u h⟩
    · simp at h
  | const v => simp only [ev, Option.some.injEq] at h; subst h; exact ⟨(den_ofVal E v).symm, ok_ofVal _ _ _ v⟩
  | func f => simp only [ev, Option.some.injEq] at h; subst h; exact ⟨rfl, .f (by simp)⟩
  | global g => simp [ev] at h
theorem evs_ok (hM : Models XC X0 w0 st E a w) : ∀ {xs : List Operand} {l : List SV}, evs st xs = some l → xs.map a.eval = dens E l ∧ ∀ u ∈ l, Ok st.no (Ex XC E st.ob) w u
  | [], l, h => by simp only [evs, Option.some.injEq] at h; subst h; exact ⟨rfl, by simp⟩
  | x :: r, l, h => by
    simp only [evs] at h
    split at h
    · rename_i u hu
      split at h
      · rename_i l' hl
        simp only [Option.some.injEq] at h
        subst h
        obtain ⟨h1, h2⟩ := ev_ok hM hu
        obtain ⟨h3, h4⟩ := evs_ok hM hl
        exact ⟨by simp [h1, h3, dens], fun v hv => by
          rcases List.mem_cons.1 hv with rfl | hv
          · exact h2
          · exact h4 _ hv⟩
      · simp at h
    · simp at h

/-- It makes or writes memory. -/
def loud (o : Oper) : Bool := match o.op with
  | .alloc _ => true
  | .box _ _ => true
  | .store _ _ _ => true
  | .buildSlice _ _ _ => true
  | .call { callee := .builtin .append, .. } => true
  | _ => false
/-- Which object it writes to. -/
def wrote (st : St) (o : Oper) : Option Nat := match o.op with
  | .store _ x _ => match ev st x with
    | some (.p i _) => some i
    | some (.q i _ _ _) => some i
    | _ => none
  | .call { callee := .builtin .append, args, .. } => match evs st args.toList with
    | some [.own i, _] => some i
    | _ => none
  | _ => none
def wrow (st : St) (E : Env) (o : Oper) : Option Nat := (wrote st o).bind fun i => (nth st.ob i).bind (blk E i)
theorem grownBy_refl (w : World) (row : Option Nat) : w.grownBy w row := ⟨rfl, rfl, rfl, Nat.le_refl _, fun _ _ _ => rfl⟩
/-- Each block that an object has was an object's, or is new, or is the row's. -/
def Fresh (ob ob' : List (Nat × Ob)) (E E' : Env) (w : World) (row : Option Nat) : Prop := ∀ i o' b, nth ob' i = some o' → blk E' i o' = some b → (∃ o, nth ob i = some o ∧ blk E i o = some b) ∨ w.heap.size ≤ b ∨ row = some b
theorem fresh_same (ob : List (Nat × Ob)) (E : Env) (w : World) (row : Option Nat) : Fresh ob ob E E w row := fun i o' b h hb => .inl ⟨o', h, hb⟩
theorem fresh_put (st : St) (d : Option Tmp) (u : SV) (E : Env) (w : World) (row : Option Nat) : Fresh st.ob (st.put d u).ob E E w row := by
  cases d <;> exact fresh_same _ _ _ _
/-- The operation is carried out, and leaves this. -/
def StepOk (P : Program) (XC X0 : Nat → Prop) (w0 : World) (st : St) (E : Env) (a : Act) (w : World) (o : Oper) (st' : St) : Prop :=
  ∃ (r : Next) (v : Value) (E' : Env) (w' : World), (execOp a.eval o).run P w = .ok r w' ∧ (r = .value v ∨ (r = .skip ∧ v = undef)) ∧ Models XC X0 w0 st' E' (a.put o.dst v) w' ∧
    (loud o = false → ∃ u, v = den E u ∧ r = .value v ∧ w' = w ∧ E' = E ∧ st' = st.put o.dst u ∧ Ok st.no (Ex XC E st.ob) w u) ∧ w.grownBy w' (wrow st E o) ∧ EnvEq st.no E E' ∧ Fresh st.ob st'.ob E E' w (wrow st E o)
def XOk (P : Program) (XC X0 : Nat → Prop) (w0 : World) (st : St) (E : Env) (a : Act) (w : World) (o : Oper) : XR → Prop
  | .ok st' => StepOk P XC X0 w0 st E a w o st'
  | .need p st' => p → StepOk P XC X0 w0 st E a w o st'
  | .call f args => (∀ r, (callFunc f (dens E args).toArray).run P w = r → (execOp a.eval o).run P w = r) ∧ ∀ u ∈ args, Ok st.no (Ex XC E st.ob) w u
  | .yield i args => (∀ r, (Instr.yield (E.id i) (dens E args).toArray).run P w = r → (execOp a.eval o).run P w = r) ∧ ∀ u ∈ args, Ok st.no (Ex XC E st.ob) w u
  | .no => True

theorem value_ok (hM : Models XC X0 w0 st E a w) {o : Oper} {u : SV} (hu : Ok st.no (Ex XC E st.ob) w u) (h : (execOp a.eval o).run P w = .ok (.value (den E u)) w) : StepOk P XC X0 w0 st E a w o (st.put o.dst u) :=
  ⟨_, _, E, w, h, .inl rfl, hM.put o.dst hu rfl, fun _ => ⟨u, rfl, rfl, rfl, rfl, rfl, hu⟩, grownBy_refl _ _, EnvEq.refl _ _, fresh_put _ _ _ _ _ _⟩
theorem of_ok (hM : Models XC X0 w0 st E a w) {o : Oper} {r : Option SV} (h : ∀ u, r = some u → Ok st.no (Ex XC E st.ob) w u ∧ (execOp a.eval o).run P w = .ok (.value (den E u)) w) : XOk P XC X0 w0 st E a w o (XR.of st o.dst r) := by
  cases r with
  | none => trivial
  | some u => exact value_ok hM (h u rfl).1 (h u rfl).2
theorem pickC_ok {agg : Bool} {m : Nat} {l : List SV} {o : Oper} {k : SV → XR} (hl : ∀ u ∈ l, Ok st.no (Ex XC E st.ob) w u)
    (h : ∀ u, Ok st.no (Ex XC E st.ob) w u → m ≤ l.length → (agg = true ∧ u = .a (l.take m) ∨ agg = false ∧ m = 1 ∧ l[0]? = some u) → XOk P XC X0 w0 st E a w o (k u)) : XOk P XC X0 w0 st E a w o (pickC agg m l k) := by
  unfold pickC
  split
  · rename_i hm
    split
    · rename_i ha
      rw [force_eq]
      exact h _ (.a fun u hu => hl u (List.mem_of_mem_take hu)) hm (.inl ⟨ha, rfl⟩)
    · rename_i ha
      split
      · rename_i u r
        split
        · rename_i h1
          exact h u (hl u (by simp)) hm (.inr ⟨by simpa using ha, h1, rfl⟩)
        · trivial
      · trivial
  · trivial

/-! the types -/
theorem TIok.size_run {t : Nat} {ti : TI} (h : TIok P t ti) (w : World) : (sizeOf t).run P w = .ok ti.size w := by
  obtain ⟨i, h1, h2, _⟩ := h.info
  simp [sizeOf, typeInfo, h1, Result.andThen, h2]
theorem TIok.under_run {t : Nat} {ti : TI} (h : TIok P t ti) (w : World) : ∃ d, P.underlying t = some d ∧ ti.d.fits d ∧ (underlying t).run P w = .ok d w := by
  obtain ⟨d, h1, h2⟩ := h.und
  exact ⟨d, h1, h2, by simp [underlying, h1, Result.andThen]⟩
theorem TIok.agg_run {t : Nat} {ti : TI} (h : TIok P t ti) (w : World) : (isAgg t).run P w = .ok ti.agg w := by
  obtain ⟨d, h1, h2, h3⟩ := h.under_run w
  unfold isAgg
  simp only [Sem.run_bind, h3, Result.andThen]
  obtain ⟨sz, by_, dd, z, eqs⟩ := ti
  cases dd <;> simp only [TD.fits] at h2
  · cases d <;> simp_all [TI.agg]
  · subst h2; simp [TI.agg]
  · subst h2; simp [TI.agg]
  · obtain ⟨f, rfl, _⟩ := h2; simp [TI.agg]
  · subst h2; simp [TI.agg]
  · subst h2; simp [TI.agg]
theorem TIok.zero_run {t : Nat} {ti : TI} (h : TIok P t ti) (w : World) : ∃ z, (zeroValue t).run P w = .ok z w ∧ z.cells.toList = ti.zero.map Z.val := by
  obtain ⟨i, h1, _, _, z, h3, h4⟩ := h.info
  exact ⟨z, by simp [zeroValue, typeInfo, h1, h3, Result.andThen], h4⟩

/-! objects -/
theorem nth_cons (k : Nat) (o : Ob) (r : List (Nat × Ob)) (i : Nat) : nth ((k, o) :: r) i = if k = i then some o else nth r i := rfl
theorem nth_upd (ob : List (Nat × Ob)) (i : Nat) (x : Ob) (j : Nat) : nth (upd ob i x) j = if j = i then (nth ob i).map (fun _ => x) else nth ob j := by
  induction ob with
  | nil => simp [upd, nth]
  | cons p r ih =>
    obtain ⟨k, o⟩ := p
    simp only [upd]
    by_cases hk : k = i
    · subst hk
      simp only [if_true, nth]
      by_cases hj : j = k
      · subst hj; simp
      · simp [hj, Ne.symm hj]
    · simp only [hk, if_false, nth, ih]
      by_cases hj : k = j
      · subst hj; simp [hk]
      · simp only [hj, if_false]
theorem flat_mem {n : Nat} {el : Nat → List SV} {u : SV} (h : u ∈ flat n el) : ∃ j, j < n ∧ u ∈ el j := by
  obtain ⟨j, hj, hu⟩ := List.mem_flatMap.1 h
  exact ⟨j, by simpa using hj, hu⟩
theorem Row.lt {e : TypeId} {k n : Nat} {v : Value} {xs : List Value} (h : Row w e k v n xs) {b : Nat} (hb : rowBlk v = some b) : b < w.heap.size := by
  rcases h.2 with ⟨A, rfl, _⟩ | ⟨g, c, cur, rfl, hg, _⟩
  · cases A <;> simp [rowBlk] at hb
  · simp [rowBlk] at hb; subst hb
    exact (Array.getElem?_eq_some_iff.1 hg).1
theorem Row.keep {e : TypeId} {k n : Nat} {v : Value} {xs : List Value} (h : Row w e k v n xs) (hb : ∀ b, rowBlk v = some b → w'.heap[b]? = w.heap[b]?) : Row w' e k v n xs := by
  refine ⟨h.1, h.2.imp id ?_⟩
  rintro ⟨g, c, cur, rfl, hg, h2⟩
  exact ⟨g, c, cur, rfl, (hb g rfl).trans hg, h2⟩
theorem ObOk.keep {j : Nat} {o : Ob} (h : ObOk E w j o) (hs : ObSv N X w o) (hj : j < N) (he : EnvEq N E E') (hb : ∀ b, blk E j o = some b → w'.heap[b]? = w.heap[b]?) : ObOk E' w' j o := by
  have := he j hj
  cases o with
  | cells cs t => exact ⟨by rw [← this.1, ← dens_env hs he, hb _ rfl]; exact h.1, h.2⟩
  | row e k n el => exact ⟨by rw [← this.2.1]; exact h.1.keep hb, h.2⟩
  | mark => show w'.heap[E'.id j]? = _; rw [← this.1, hb _ rfl]; exact h
  | lp l r => exact ⟨by rw [← this.1]; exact h.1, by rw [← this.1, hb _ rfl]; exact h.2⟩
  | mp kk es =>
    obtain ⟨ents, clock, h1, h2, h3⟩ := h
    refine ⟨ents, clock, by rw [← this.1, hb _ rfl]; exact h1, ?_, h3⟩
    rw [h2]
    congr 1
    exact List.map_congr_left fun x hx => by rw [den_env (hs x hx) he]
  | gone => trivial
theorem ObSv.move {o : Ob} (h : ObSv N X w o) (mv : ∀ u, Ok N X w u → Ok N' X' w' u) : ObSv N' X' w' o := by
  cases o with
  | cells => exact fun u hu => mv u (h u hu)
  | row => exact fun j hj u hu => mv u (h j hj u hu)
  | mp => exact fun x hx => mv _ (h x hx)
  | _ => trivial
theorem nth_goneOf {old : Option Nat} {obs : List (Nat × Ob)} {j : Nat} {o : Ob} (h : nth (goneOf old obs) j = some o) : (o = .gone ∧ old = some j ∧ ∃ o', nth obs j = some o') ∨ (nth obs j = some o ∧ old ≠ some j) := by
  unfold goneOf at h
  split at h
  · rename_i i
    rw [nth_upd] at h
    split at h
    · rename_i he; subst he
      cases hn : nth obs j with
      | none => simp [hn] at h
      | some o' => simp [hn] at h; exact .inl ⟨h.symm, rfl, o', rfl⟩
    · rename_i he; exact .inr ⟨h, by simp; exact fun e => he e.symm⟩
  · exact .inr ⟨h, by simp⟩

/-- A new object, perhaps in an old one's stead. -/
theorem Mem.next (hm : Mem XC X0 w0 obs N E w) {old row : Option Nat} (hrow : ∀ b, row = some b → ∃ i o, old = some i ∧ nth obs i = some o ∧ blk E i o = some b) (hg : w.grownBy w' row) (he : EnvEq N E E')
    (hu : ∀ j, (E'.unk j).oneCell' = true) (hv : ∀ j, (E'.val j).oneCell' = true) {o : Ob} (hb : ∀ b, blk E' N o = some b → b < w'.heap.size ∧ (w.heap.size ≤ b ∨ row = some b)) (ho : ObOk E' w' N o) (hs : ObSv N (Ex XC E obs) w o) :
    Mem XC X0 w0 ((N, o) :: goneOf old obs) (N + 1) E' w' ∧ ∀ u, Ok N (Ex XC E obs) w u → Ok (N + 1) (Ex XC E' ((N, o) :: goneOf old obs)) w' u := by
  have hX0 : ∀ b, row = some b → b < w.heap.size ∧ (X0 b ∨ w0.heap.size ≤ b) := fun b h => by
    obtain ⟨i, o, _, h1, h2⟩ := hrow b h
    exact hm.lt b ⟨i, o, h1, h2⟩
  have old_ : ∀ j o', nth ((N, o) :: goneOf old obs) j = some o' → (j = N ∧ o' = o) ∨ (j < N ∧ ((o' = .gone ∧ old = some j) ∨ (nth obs j = some o' ∧ old ≠ some j))) := fun j o' h => by
    rw [nth_cons] at h
    split at h
    · rename_i e; simp at h; exact .inl ⟨e.symm, h.symm⟩
    · rcases nth_goneOf h with ⟨h1, h2, o2, h3⟩ | ⟨h1, h2⟩
      · exact .inr ⟨hm.no _ _ h3, .inl ⟨h1, h2⟩⟩
      · exact .inr ⟨hm.no _ _ h1, .inr ⟨h1, h2⟩⟩
  have ne_row : ∀ j o' b, nth obs j = some o' → old ≠ some j → blk E j o' = some b → row ≠ some b := fun j o' b h1 h2 h3 h4 => by
    obtain ⟨i, o2, e1, e2, e3⟩ := hrow b h4
    have := hm.ne i j o2 o' b e2 h1 e3 h3
    exact h2 (by rw [e1, this])
  have hhas : ∀ b, Has E' ((N, o) :: goneOf old obs) b → b < w.heap.size → Has E obs b := by
    rintro b ⟨j, o', h, hbk⟩ hlt
    rcases old_ j o' h with ⟨rfl, rfl⟩ | ⟨hj, ⟨rfl, _⟩ | ⟨h1, h2⟩⟩
    · rcases (hb b hbk).2 with h | h
      · omega
      · obtain ⟨i, o2, _, e2, e3⟩ := hrow b h
        exact ⟨i, o2, e2, e3⟩
    · simp [blk] at hbk
    · exact ⟨j, o', h1, by rw [← blk_env hj he]; exact hbk⟩
  have mv : ∀ u, Ok N (Ex XC E obs) w u → Ok (N + 1) (Ex XC E' ((N, o) :: goneOf old obs)) w' u := fun u h =>
    h.move (by omega) hg.size fun b hlt hX => ⟨fun hh => hX (hh.imp (fun hh => hhas b hh hlt) id), hg.block b hlt fun e => by
      obtain ⟨i, o2, _, e2, e3⟩ := hrow b e.symm
      exact hX (.inl ⟨i, o2, e2, e3⟩)⟩
  refine ⟨⟨⟨hg.os.trans hm.fr.os, hg.tape.trans hm.fr.tape, hg.output.trans hm.fr.output, Nat.le_trans hm.fr.size hg.size, fun b hlt hX => ?_⟩, fun j o' h => ?_, fun b h => ?_, fun i j o1 o2 b h1 h2 hb1 hb2 => ?_, fun i o' h => ?_, fun j o' h => ?_, hu, hv⟩, mv⟩
  · rw [hg.block b (Nat.lt_of_lt_of_le hlt hm.fr.size)]
    · exact hm.fr.block b hlt hX
    · intro e
      rcases (hX0 b e.symm).2 with h | h
      · exact hX h
      · omega
  · rcases old_ j o' h with ⟨rfl, rfl⟩ | ⟨hj, ⟨rfl, _⟩ | ⟨h1, h2⟩⟩
    · exact ho
    · trivial
    · refine (hm.ob j o' h1).keep (hm.oko j o' h1) hj he fun b hbk => hg.block b (hm.lt b ⟨j, o', h1, hbk⟩).1 fun e => ne_row j o' b h1 h2 hbk e.symm
  · obtain ⟨j, o', h, hbk⟩ := h
    rcases old_ j o' h with ⟨rfl, rfl⟩ | ⟨hj, ⟨rfl, _⟩ | ⟨h1, h2⟩⟩
    · refine ⟨(hb b hbk).1, ?_⟩
      rcases (hb b hbk).2 with h | h
      · exact .inr (Nat.le_trans hm.fr.size h)
      · exact (hX0 b h).2
    · simp [blk] at hbk
    · have := hm.lt b ⟨j, o', h1, by rw [← blk_env hj he]; exact hbk⟩
      exact ⟨Nat.lt_of_lt_of_le this.1 hg.size, this.2⟩
  · have new : ∀ j o' , j < N → nth obs j = some o' → old ≠ some j → blk E' j o' = some b → blk E' N o = some b → False := fun j o' hj h1 h2 h3 h4 => by
      rw [blk_env hj he] at h3
      rcases (hb b h4).2 with h | h
      · have := (hm.lt b ⟨j, o', h1, h3⟩).1; omega
      · exact ne_row j o' b h1 h2 h3 h
    rcases old_ i o1 h1 with ⟨rfl, rfl⟩ | ⟨hi, ⟨rfl, _⟩ | ⟨g1, g2⟩⟩
    · rcases old_ j o2 h2 with ⟨rfl, rfl⟩ | ⟨hj, ⟨rfl, _⟩ | ⟨g3, g4⟩⟩
      · rfl
      · simp [blk] at hb2
      · exact (new j o2 hj g3 g4 hb2 hb1).elim
    · simp [blk] at hb1
    · rcases old_ j o2 h2 with ⟨rfl, rfl⟩ | ⟨hj, ⟨rfl, _⟩ | ⟨g3, g4⟩⟩
      · exact (new i o1 hi g1 g2 hb1 hb2).elim
      · simp [blk] at hb2
      · rw [blk_env hi he] at hb1
        rw [blk_env hj he] at hb2
        exact hm.ne i j o1 o2 b g1 g3 hb1 hb2
  · rcases old_ i o' h with ⟨rfl, _⟩ | ⟨hi, _⟩ <;> omega
  · rcases old_ j o' h with ⟨rfl, rfl⟩ | ⟨hj, ⟨rfl, _⟩ | ⟨h1, h2⟩⟩
    · exact hs.move mv
    · trivial
    · exact (hm.oko j o' h1).move mv

/-- An object's content turns (or it is let go). -/
theorem Mem.set (hm : Mem XC X0 w0 obs N E w) {i : Nat} {o o' : Ob} (hn : nth obs i = some o) (hb : ∀ b, blk E i o' = some b → blk E i o = some b) (hg : w.grownBy w' (blk E i o)) (ho : ObOk E w' i o') (hs : ObSv N (Ex XC E obs) w o') :
    Mem XC X0 w0 (upd obs i o') N E w' ∧ ∀ u, Ok N (Ex XC E obs) w u → Ok N (Ex XC E (upd obs i o')) w' u := by
  have old_ : ∀ j p, nth (upd obs i o') j = some p → (j = i ∧ p = o') ∨ (j ≠ i ∧ nth obs j = some p) := fun j p h => by
    rw [nth_upd] at h
    split at h
    · rename_i e; simp [hn] at h; exact .inl ⟨e, h.symm⟩
    · rename_i e; exact .inr ⟨e, h⟩
  have base : ∀ j p b, nth (upd obs i o') j = some p → blk E j p = some b → ∃ q, nth obs j = some q ∧ blk E j q = some b := fun j p b h hbk => by
    rcases old_ j p h with ⟨rfl, rfl⟩ | ⟨_, h1⟩
    · exact ⟨o, hn, hb b hbk⟩
    · exact ⟨p, h1, hbk⟩
  have hhas : ∀ b, Has E (upd obs i o') b → Has E obs b := fun b ⟨j, p, h, hbk⟩ => by
    obtain ⟨q, h1, h2⟩ := base j p b h hbk
    exact ⟨j, q, h1, h2⟩
  have mv : ∀ u, Ok N (Ex XC E obs) w u → Ok N (Ex XC E (upd obs i o')) w' u := fun u h =>
    h.move (Nat.le_refl _) hg.size fun b hlt hX => ⟨fun hh => hX (hh.imp (hhas b) id), hg.block b hlt fun e => hX (.inl ⟨i, o, hn, e.symm⟩)⟩
  refine ⟨⟨⟨hg.os.trans hm.fr.os, hg.tape.trans hm.fr.tape, hg.output.trans hm.fr.output, Nat.le_trans hm.fr.size hg.size, fun b hlt hX => ?_⟩, fun j p h => ?_, fun b h => ?_, fun j1 j2 o1 o2 b h1 h2 hb1 hb2 => ?_, fun j p h => ?_, fun j p h => ?_, hm.unk, hm.val⟩, mv⟩
  · rw [hg.block b (Nat.lt_of_lt_of_le hlt hm.fr.size)]
    · exact hm.fr.block b hlt hX
    · intro e
      rcases (hm.lt b ⟨i, o, hn, e.symm⟩).2 with h | h
      · exact hX h
      · omega
  · rcases old_ j p h with ⟨rfl, rfl⟩ | ⟨hj, h1⟩
    · exact ho
    · exact (hm.ob j p h1).keep (hm.oko j p h1) (hm.no j p h1) (EnvEq.refl _ _) fun b hbk => hg.block b (hm.lt b ⟨j, p, h1, hbk⟩).1 fun e => hj (hm.ne j i p o b h1 hn hbk e.symm)
  · have := hm.lt b (hhas b h)
    exact ⟨Nat.lt_of_lt_of_le this.1 hg.size, this.2⟩
  · obtain ⟨q1, g1, g2⟩ := base j1 o1 b h1 hb1
    obtain ⟨q2, g3, g4⟩ := base j2 o2 b h2 hb2
    exact hm.ne j1 j2 q1 q2 b g1 g3 g2 g4
  · rcases old_ j p h with ⟨rfl, rfl⟩ | ⟨hj, h1⟩
    · exact hm.no _ _ hn
    · exact hm.no j p h1
  · rcases old_ j p h with ⟨rfl, rfl⟩ | ⟨hj, h1⟩
    · exact hs.move mv
    · exact (hm.oko j p h1).move mv

theorem heap_alloc_lt (o : Obj) {b : Nat} (h : b < w.heap.size) : (w.alloc o).heap[b]? = w.heap[b]? := by
  show (w.heap.push o)[b]? = _
  rw [Array.getElem?_push, if_neg (by omega)]
theorem heap_alloc_at (o : Obj) : (w.alloc o).heap[w.heap.size]? = some o := by
  show (w.heap.push o)[w.heap.size]? = _
  rw [Array.getElem?_push, if_pos rfl]
def Env.setId (E : Env) (N b : Nat) : Env := { E with id := fun i => if i = N then b else E.id i }
def Env.setVal (E : Env) (N : Nat) (v : Value) : Env := { E with val := fun i => if i = N then v else E.val i }
theorem setId_eq (E : Env) (N b : Nat) : EnvEq N E (E.setId N b) := fun i hi => ⟨by simp [Env.setId]; intro h; omega, rfl, rfl⟩
theorem setVal_eq (E : Env) (N : Nat) (v : Value) : EnvEq N E (E.setVal N v) := fun i hi => ⟨rfl, by simp [Env.setVal]; intro h; omega, rfl⟩

theorem Models.alloc (hM : Models XC X0 w0 st E a w) {cs : List SV} (t : Nat) (h1 : ∀ u ∈ cs, one u = true) (hk : ∀ u ∈ cs, Ok st.no (Ex XC E st.ob) w u) :
    Models XC X0 w0 { st with ob := (st.no, .cells cs t) :: st.ob, no := st.no + 1 } (E.setId st.no w.heap.size) a (w.alloc (.cells (dens E cs).toArray t)) := by
  obtain ⟨m, mv⟩ := hM.mem.next (old := none) (row := none) (by simp) (World.grownBy_alloc w _ none) (setId_eq E st.no w.heap.size) hM.mem.unk hM.mem.val (o := .cells cs t)
    (fun b hb => by simp [blk, Env.setId] at hb; subst hb; exact ⟨by simp, .inl (Nat.le_refl _)⟩)
    ⟨by rw [← dens_env hk (setId_eq E st.no w.heap.size)]; simp only [Env.setId, if_true]; exact heap_alloc_at _, h1⟩ hk
  exact hM.trans m (by omega) (setId_eq _ _ _) mv
theorem Models.new (hM : Models XC X0 w0 st E a w) {cs : List SV} (d : Option Tmp) (t : Nat) (h1 : ∀ u ∈ cs, one u = true) (hk : ∀ u ∈ cs, Ok st.no (Ex XC E st.ob) w u) :
    Models XC X0 w0 (st.new d cs t) (E.setId st.no w.heap.size) (a.put d (.pointer (some ⟨w.heap.size, 0, none⟩))) (w.alloc (.cells (dens E cs).toArray t)) := by
  have h := (hM.alloc t h1 hk).put d (u := .p st.no 0) (v := .pointer (some ⟨w.heap.size, 0, none⟩)) (.p 0 (Nat.lt_succ_self _)) (by simp [den, Env.setId])
  cases d <;> exact h
/-- A new row, perhaps in an old one's stead. -/
theorem Models.newRow (hM : Models XC X0 w0 st E a w) (d : Option Tmp) {e k n : Nat} {el : Nat → List SV} {old row : Option Nat} (hrow : ∀ b, row = some b → ∃ i o, old = some i ∧ nth st.ob i = some o ∧ blk E i o = some b) (hg : w.grownBy w' row)
    {v : Value} (hR : Row w' e k v n (dens E0 (flat n el))) (hb : ∀ b, rowBlk v = some b → w.heap.size ≤ b ∨ row = some b) (h1 : ∀ j, j < n → (el j).length = k ∧ ∀ u ∈ el j, one u = true ∧ pure u = true) (hk : 0 < k)
    (hs : ∀ j, j < n → ∀ u ∈ el j, Ok st.no (Ex XC E st.ob) w u) (hv : v.oneCell' = true) :
    Models XC X0 w0 (st.row d e k n el old) (E.setVal st.no v) (a.put d v) w' := by
  have hval : (E.setVal st.no v).val st.no = v := by simp [Env.setVal]
  obtain ⟨m, mv⟩ := hM.mem.next hrow hg (setVal_eq E st.no v) hM.mem.unk (fun j => by simp only [Env.setVal]; split; exact hv; exact hM.mem.val j) (o := .row e k n el)
    (fun b h => by simp only [blk, hval] at h; exact ⟨hR.lt h, hb b h⟩) ⟨by rw [hval]; exact hR, h1, hk⟩ hs
  have h := (hM.trans m (by omega) (setVal_eq _ _ _) mv).put d (u := .own st.no) (v := v) (.own (Nat.lt_succ_self _)) (by simp [den, hval])
  cases d <;> exact h
theorem fresh_upd {ob : List (Nat × Ob)} {i : Nat} {o o1 : Ob} (hn : nth ob i = some o) {E : Env} (hb : ∀ b, blk E i o1 = some b → blk E i o = some b) (w : World) (row : Option Nat) : Fresh ob (upd ob i o1) E E w row := fun j o' b h hbk => by
  rw [nth_upd] at h
  split at h
  · rename_i e; subst e; rw [hn] at h; simp at h; subst h; exact .inl ⟨o, hn, hb b hbk⟩
  · exact .inl ⟨o', h, hbk⟩
theorem fresh_new (st : St) (d : Option Tmp) (cs : List SV) (t : Nat) (E : Env) (w : World) (row : Option Nat) : Fresh st.ob (st.new d cs t).ob E (E.setId st.no w.heap.size) w row := fun j o' b h0 hbk => by
  have h : nth ((st.no, Ob.cells cs t) :: st.ob) j = some o' := by cases d <;> exact h0
  by_cases hj : st.no = j
  · rw [nth_cons, if_pos hj] at h
    injection h with h
    subst h
    simp [blk, Env.setId, hj] at hbk
    exact .inr (.inl (by omega))
  · rw [nth_cons, if_neg hj] at h
    refine .inl ⟨o', h, ?_⟩
    have hne : ¬ j = st.no := fun h => hj h.symm
    rw [← hbk]
    cases o' <;> simp [blk, Env.setId, hne]
theorem fresh_row (st : St) (d : Option Tmp) (e k n : Nat) (el : Nat → List SV) (old : Option Nat) (E : Env) (w : World) (row : Option Nat) {v : Value} (hb : ∀ b, rowBlk v = some b → w.heap.size ≤ b ∨ row = some b) : Fresh st.ob (st.row d e k n el old).ob E (E.setVal st.no v) w row := fun j o' b h0 hbk => by
  have h : nth ((st.no, Ob.row e k n el) :: goneOf old st.ob) j = some o' := by cases d <;> exact h0
  by_cases hj : st.no = j
  · rw [nth_cons, if_pos hj] at h
    injection h with h
    subst h
    simp [blk, Env.setVal, hj] at hbk
    exact .inr (hb b hbk)
  · rw [nth_cons, if_neg hj] at h
    have hne : ¬ j = st.no := fun h => hj h.symm
    rcases nth_goneOf h with ⟨rfl, _⟩ | ⟨h1, _⟩
    · simp [blk] at hbk
    · refine .inl ⟨o', h1, ?_⟩
      rw [← hbk]
      cases o' <;> simp [blk, Env.setVal, hne]
end
end Go.SE
set_option linter.unusedVariables false
set_option linter.unusedSimpArgs false
namespace Go.SE
open Go.RowKit

section
variable {P : Program} {T : List (Nat × TI)} {XC X0 : Nat → Prop} {w0 : World} {st : St} {E : Env} {a : Act} {w : World}

theorem x_move (hM : Models XC X0 w0 st E a w) {o : Oper} {x : Operand} (ho : o.op = .move x ∨ o.op = .assign x) : XOk P XC X0 w0 st E a w o (XR.of st o.dst (ev st x)) :=
  of_ok hM fun u hu => ⟨(ev_ok hM hu).2, by rcases ho with ho | ho <;> simp [execOp, ho, (ev_ok hM hu).1]⟩

theorem x_pick (hM : Models XC X0 w0 st E a w) {o : Oper} {c x y : Operand} (ho : o.op = .pick c x y) : XOk P XC X0 w0 st E a w o (exec T st o) := by
  simp only [exec, ho]
  split
  · rename_i t hc
    obtain ⟨e1, _⟩ := ev_ok hM hc
    have run : ∀ v, (if t then a.eval x else a.eval y) = v → (execOp a.eval o).run P w = .ok (.value v) w := fun v hv => by
      simp [execOp, ho, e1, den, asBool, Result.andThen, hv]
    split
    · rename_i p q hx hy
      refine value_ok hM (.v _) (run _ ?_)
      rw [(ev_ok hM hx).1, (ev_ok hM hy).1]
      cases t <;> rfl
    · split
      · exact of_ok hM fun u hu => ⟨(ev_ok hM hu).2, run _ (by simp [(ev_ok hM hu).1])⟩
      · exact of_ok hM fun u hu => ⟨(ev_ok hM hu).2, run _ (by simp [(ev_ok hM hu).1])⟩
  · trivial

theorem zval_one (z : Z) : one (.v z.val) = true := by cases z <;> rfl
theorem zeros_ok (N : Nat) (X : Nat → Prop) (w : World) (l : List Z) : ∀ u ∈ l.map (fun z => SV.v z.val), one u = true ∧ Ok N X w u := by
  intro u hu
  obtain ⟨z, _, rfl⟩ := List.mem_map.1 hu
  exact ⟨zval_one z, .v _⟩
theorem dens_zeros (E : Env) (l : List Z) : dens E (l.map fun z => SV.v z.val) = l.map Z.val := by
  rw [dens_map, List.map_map]; rfl

theorem x_alloc (hT : TabOk P T) (hM : Models XC X0 w0 st E a w) {o : Oper} {t : TypeId} (ho : o.op = .alloc t) : XOk P XC X0 w0 st E a w o (exec T st o) := by
  simp only [exec, ho]
  split
  · rename_i ti ht
    rw [force_eq]
    obtain ⟨z, hz, hzc⟩ := (hT t ti (ty_mem ht)).zero_run w
    have hzz := zeros_ok st.no (Ex XC E st.ob) w ti.zero
    refine ⟨_, _, _, _, ?_, .inl rfl, hM.new o.dst t (fun u hu => (hzz u hu).1) (fun u hu => (hzz u hu).2), fun hl => by simp [loud, ho] at hl, by simp only [wrow, wrote, ho]; exact World.grownBy_alloc w _ none, setId_eq _ _ _, fresh_new _ _ _ _ _ _ _⟩
    have hcs : z.cells = (dens E (ti.zero.map fun z => SV.v z.val)).toArray := by
      rw [dens_zeros, ← hzc]
    simp [execOp, ho, Instr.alloc, hz, Result.andThen, newVar, newRow, hcs]
  · trivial

theorem cells_den (E : Env) {u : SV} (h : ∀ x ∈ cellsOf u, one x = true) (hu : ∀ j, (E.unk j).oneCell' = true) (hv : ∀ i, (E.val i).oneCell' = true) : (den E u).cells = (dens E (cellsOf u)).toArray := by
  have hone : ∀ v : Value, v.oneCell' = true → v.cells = #[v] := fun v hv => by cases v <;> first | rfl | simp [Value.oneCell'] at hv
  cases u with
  | a l => rfl
  | v x =>
    have := h (.v x) (by simp [cellsOf])
    simp only [cellsOf, dens, den]
    exact hone x this
  | t l => have := h (.t l) (by simp [cellsOf]); simp [one] at this
  | p => rfl
  | s => rfl
  | e => rfl
  | own i => simp only [cellsOf, dens, den]; exact hone _ (hv i)
  | q => rfl
  | f => rfl
  | y => rfl
  | ifc => rfl
  | m => rfl
  | x j => simp only [cellsOf, dens, den]; exact hone _ (hu j)

theorem all_one {l : List SV} (h : l.all one = true) : ∀ u ∈ l, one u = true := fun u hu => List.all_eq_true.1 h u hu
theorem ok_cellsOf {N : Nat} {X : Nat → Prop} {u : SV} (h : Ok N X w u) : ∀ x ∈ cellsOf u, Ok N X w x := by
  intro x hx
  cases u with
  | a l => cases h with | a h => exact h x hx
  | v | p | t | s | e | own | q | f | x | y | ifc | m => simp only [cellsOf, List.mem_singleton] at hx; subst hx; exact h

theorem x_box (hM : Models XC X0 w0 st E a w) {o : Oper} {t : TypeId} {x : Operand} (ho : o.op = .box t x) : XOk P XC X0 w0 st E a w o (exec T st o) := by
  simp only [exec, ho]
  split
  · rename_i u hu
    split
    · rename_i h1
      obtain ⟨e1, e2⟩ := ev_ok hM hu
      have hc := cells_den E (all_one h1) hM.mem.unk hM.mem.val
      refine ⟨_, _, _, _, ?_, .inl rfl, hM.new o.dst t (all_one h1) (ok_cellsOf e2), fun hl => by simp [loud, ho] at hl, by simp only [wrow, wrote, ho]; exact World.grownBy_alloc w _ none, setId_eq _ _ _, fresh_new _ _ _ _ _ _ _⟩
      simp [execOp, ho, Instr.box, newVar, newRow, e1, hc, Result.andThen]
    · trivial
  · trivial

/-! build -/
theorem places_ok (hT : TabOk P T) {t : Nat} {ti : TI} (ht : ty T t = some ti) (d : TypeDesc) (hd : P.underlying t = some d) (hf : ti.d.fits d) {i off size : Nat} (h : places T ti.d i = some (off, size)) :
    (∃ fs, d = .struct fs ∧ ∃ f, fs[i]? = some f ∧ f.offset = off ∧ ∃ fi, ty T f.type = some fi ∧ fi.size = size) ∨
    (∃ n e, d = .array n e ∧ ∃ ei, ty T e = some ei ∧ off = i * ei.size ∧ size = ei.size) := by
  obtain ⟨sz, by_, dd, z, eqs⟩ := ti
  cases dd with
  | struct fs =>
    simp only [places] at h
    split at h
    · rename_i o2 t2 h2
      split at h
      · rename_i fi hfi
        simp at h
        obtain ⟨rfl, rfl⟩ := h
        obtain ⟨f, rfl, hf⟩ := hf
        subst hf
        rw [List.getElem?_map] at h2
        cases hff : f[i]? with
        | none => simp [hff] at h2
        | some g =>
          simp [hff] at h2
          exact .inl ⟨f, rfl, g, hff, h2.1, fi, by rw [h2.2]; exact hfi, rfl⟩
      · simp at h
    · simp at h
  | arr n e =>
    simp only [places] at h
    split at h
    · rename_i ei he
      simp at h
      exact .inr ⟨n, e, hf, ei, he, h.1.symm, h.2.symm⟩
    · simp at h
  | word | bool | int | sl => simp [places] at h

theorem fold_splice (cs : List Value) : ∀ (l : List Value) (off : Nat), off + cs.length ≤ l.length →
    ((cs.zipIdx).foldl (fun (A : Array Value) (x : Value × Nat) => A.setIfInBounds (off + x.2) x.1) l.toArray) = (l.take off ++ cs ++ l.drop (off + cs.length)).toArray := by
  suffices h : ∀ (cs : List Value) (k : Nat) (l : List Value) (off : Nat), off + k + cs.length ≤ l.length →
      ((cs.zipIdx k).foldl (fun (A : Array Value) (x : Value × Nat) => A.setIfInBounds (off + x.2) x.1) l.toArray) = (l.take (off + k) ++ cs ++ l.drop (off + k + cs.length)).toArray by
    intro l off hl
    simpa using h cs 0 l off (by simpa using hl)
  intro cs
  induction cs with
  | nil => intro k l off hl; simp
  | cons c r ih =>
    intro k l off hl
    simp at hl
    simp only [List.zipIdx_cons, List.foldl_cons]
    have := ih (k + 1) (l.set (off + k) c) off (by simp; omega)
    rw [show (l.toArray.setIfInBounds (off + k) c) = (l.set (off + k) c).toArray by simp]
    rw [this]
    congr 1
    have e1 : (l.set (off + k) c).take (off + (k + 1)) = l.take (off + k) ++ [c] := by
      rw [← Nat.add_assoc, List.take_succ_eq_append_getElem (by simp; omega), List.take_set_of_le (by omega)]
      simp
    have e2 : (l.set (off + k) c).drop (off + (k + 1) + r.length) = l.drop (off + k + (r.length + 1)) := by
      rw [List.drop_set_of_lt (by omega)]
      congr 1; omega
    rw [e1, e2]
    simp

theorem fill_ok (hT : TabOk P T) (hM : Models XC X0 w0 st E a w) (td : TD) (pl : Nat → Option (Nat × Nat))
    (hpl : ∀ i off size, places T td i = some (off, size) → pl i = some (off, size)) {o : Oper} {k : List SV → XR} :
    ∀ (parts : List (Nat × Operand)) (cs : List SV), (∀ u ∈ cs, Ok st.no (Ex XC E st.ob) w u) → (∀ u ∈ cs, one u = true) →
      (∀ cs', (∀ u ∈ cs', Ok st.no (Ex XC E st.ob) w u) → (∀ u ∈ cs', one u = true) → cs'.length = cs.length → Instr.fill pl (dens E cs).toArray (parts.map fun x => (x.1, a.eval x.2)) = some (dens E cs').toArray → XOk P XC X0 w0 st E a w o (k cs')) →
      XOk P XC X0 w0 st E a w o (fillS T td st parts cs k)
  | [], cs, hk, h1, h => h cs hk h1 rfl rfl
  | (i, x) :: r, cs, hk, h1, h => by
    simp only [fillS]
    split
    · rename_i off size u hp hu
      split
      · rename_i hc
        obtain ⟨c1, c2, c3⟩ := hc
        obtain ⟨e1, e2⟩ := ev_ok hM hu
        have hcu := cells_den E (all_one c3) hM.mem.unk hM.mem.val
        rw [force_eq]
        have hmem : ∀ y ∈ splice cs off (cellsOf u), y ∈ cs ∨ y ∈ cellsOf u := fun y hy => by
          simp only [splice, List.mem_append] at hy
          rcases hy with (hy | hy) | hy
          · exact .inl (List.mem_of_mem_take hy)
          · exact .inr hy
          · exact .inl (List.mem_of_mem_drop hy)
        have hlen : (splice cs off (cellsOf u)).length = cs.length := by simp [splice]; omega
        refine fill_ok hT hM td pl hpl r (splice cs off (cellsOf u)) (fun y hy => (hmem y hy).elim (hk y) (ok_cellsOf e2 y)) (fun y hy => (hmem y hy).elim (h1 y) (all_one c3 y)) (fun cs' q1 q2 q3 q4 => h cs' q1 q2 (q3.trans hlen) ?_)
        simp only [List.map_cons, Instr.fill, hpl i off size hp, e1, hcu]
        have l1 : (dens E (cellsOf u)).length = size := by rw [dens_map]; simpa using c1
        have l2 : (dens E cs).length = cs.length := by rw [dens_map]; simp
        rw [if_neg (by simp only [List.size_toArray, l1, l2]; simp; omega)]
        have hf := fold_splice (dens E (cellsOf u)) (dens E cs) off (by rw [l1, l2]; exact c2)
        have hz : (dens E (cellsOf u)).toArray.zipIdx = ((dens E (cellsOf u)).zipIdx).toArray := by simp
        rw [hz, List.foldl_toArray']
        · rw [hf]
          have : (List.take off (dens E cs) ++ dens E (cellsOf u) ++ List.drop (off + (dens E (cellsOf u)).length) (dens E cs)) = dens E (splice cs off (cellsOf u)) := by
            simp only [dens_map, splice, List.map_append, List.map_take, List.map_drop, List.length_map]
          rw [this]
          exact q4
        · simp
      · trivial
    · trivial
end
end Go.SE
set_option linter.unusedVariables false
set_option linter.unusedSimpArgs false
namespace Go.SE
open Go.RowKit

section
variable {P : Program} {T : List (Nat × TI)} {XC X0 : Nat → Prop} {w0 : World} {st : St} {E : Env} {a : Act} {w : World}

theorem mapM_sizes {fs : Array Field} {w : World} (sz : Nat → Nat) (h : ∀ f ∈ fs.toList, (sizeOf f.type).run P w = .ok (sz f.type) w) :
    (fs.mapM (m := Sem) fun f => do Pure.pure (f.offset, ← sizeOf f.type)).run P w = .ok (fs.map fun f => (f.offset, sz f.type)) w := by
  rw [Array.mapM_eq_mapM_toList]
  have : ∀ l : List Field, (∀ f ∈ l, (sizeOf f.type).run P w = .ok (sz f.type) w) → (l.mapM (m := Sem) fun f => do Pure.pure (f.offset, ← sizeOf f.type)).run P w = .ok (l.map fun f => (f.offset, sz f.type)) w := by
    intro l
    induction l with
    | nil => intro _; rfl
    | cons f r ih =>
      intro hh
      simp only [List.mapM_cons, Sem.run_bind, hh f (by simp), Result.andThen, Sem.run_pure, ih (fun g hg => hh g (by simp [hg]))]
      rfl
  simp only [Sem.run_map, this fs.toList h, Result.andThen]
  congr 1
  exact Array.ext' (by simp)

def sizeT (T : List (Nat × TI)) (t : Nat) : Nat := match ty T t with | some ti => ti.size | none => 0
theorem sizeT_run (hT : TabOk P T) {t : Nat} (h : (ty T t).isSome = true) (w : World) : (sizeOf t).run P w = .ok (sizeT T t) w := by
  obtain ⟨ti, ht⟩ := Option.isSome_iff_exists.1 h
  simp only [sizeT, ht]
  exact (hT t ti (ty_mem ht)).size_run w
theorem value_ok' (hM : Models XC X0 w0 st E a w) {o : Oper} {u : SV} (hu : Ok st.no (Ex XC E st.ob) w u) {v : Value} (hv : v = den E u) (h : (execOp a.eval o).run P w = .ok (.value v) w) : StepOk P XC X0 w0 st E a w o (st.put o.dst u) :=
  value_ok hM hu (hv ▸ h)

theorem x_build (hT : TabOk P T) (hM : Models XC X0 w0 st E a w) {o : Oper} {t : TypeId} {parts : Array (Nat × Operand)} (ho : o.op = .build t parts) : XOk P XC X0 w0 st E a w o (exec T st o) := by
  simp only [exec, ho]
  split
  · rename_i ti ht
    split
    · rename_i hty
      rw [force_eq]
      have hti := hT t ti (ty_mem ht)
      obtain ⟨z, hz, hzc⟩ := hti.zero_run w
      obtain ⟨d, hd, hf, hdr⟩ := hti.under_run w
      have hzz := zeros_ok st.no (Ex XC E st.ob) w ti.zero
      have hcs : z.cells = (dens E (ti.zero.map fun z => SV.v z.val)).toArray := by rw [dens_zeros, ← hzc]
      have hparts : (parts.map fun x => (x.1, a.eval x.2)).toList = parts.toList.map fun x => (x.1, a.eval x.2) := by simp
      have go : ∀ (pl : Nat → Option (Nat × Nat)), (∀ i off size, places T ti.d i = some (off, size) → pl i = some (off, size)) →
          (∀ cs', Instr.fill pl z.cells (parts.toList.map fun x => (x.1, a.eval x.2)) = some cs' → (execOp a.eval o).run P w = .ok (.value (.agg cs')) w) →
          XOk P XC X0 w0 st E a w o (fillS T ti.d st parts.toList (ti.zero.map fun z => SV.v z.val) fun cs' => .ok (st.put o.dst (.a cs'))) := by
        intro pl hpl hrun
        refine fill_ok hT hM ti.d pl hpl _ _ (fun u hu => (hzz u hu).2) (fun u hu => (hzz u hu).1) (fun cs' q1 q2 q3 q4 => ?_)
        refine value_ok' hM (.a q1) rfl (hrun _ ?_)
        rw [hcs]
        exact q4
      obtain ⟨sz, by_, dd, zz, eqs⟩ := ti
      cases dd with
      | struct fs =>
        obtain ⟨f, rfl, hfs⟩ := hf
        have hmm := mapM_sizes (P := P) (w := w) (fs := f) (sizeT T) (fun g hg => sizeT_run hT (by
          simp only [tysOk, List.all_eq_true] at hty
          have := hty (g.offset, g.type) (by rw [← hfs]; exact List.mem_map.2 ⟨g, hg, rfl⟩)
          exact this) w)
        refine go (fun i => (f.map fun f => (f.offset, sizeT T f.type))[i]?) (fun i off size hp => ?_) (fun cs' hfl => ?_)
        · rcases places_ok hT ht _ hd ⟨f, rfl, hfs⟩ hp with ⟨fs', he, g, hg, h1, fi, h2, h3⟩ | ⟨n, e, he, _⟩
          · injection he with he
            subst he
            have hs : sizeT T g.type = fi.size := by simp [sizeT, h2]
            simp [hg, h1, hs, h3]
          · simp at he
        · simp only [execOp, ho, Instr.build, Sem.run_bind, hz, hdr, Result.andThen, hmm, hparts, hfl, Sem.run_pure]
      | arr n e =>
        have hd' : d = .array n e := hf
        subst hd'
        simp only [tysOk] at hty
        have hse := sizeT_run hT hty w
        refine go (fun i => some (i * sizeT T e, sizeT T e)) (fun i off size hp => ?_) (fun cs' hfl => ?_)
        · rcases places_ok hT ht _ hd rfl hp with ⟨fs', he, _⟩ | ⟨n', e', he, ei, h2, h3, h4⟩
          · simp at he
          · simp at he
            obtain ⟨_, rfl⟩ := he
            have hs : sizeT T e = ei.size := by simp [sizeT, h2]
            simp [hs, h3, h4]
        · simp only [execOp, ho, Instr.build, Sem.run_bind, hz, hdr, Result.andThen, hse, hparts, hfl, Sem.run_pure]
      | word | bool | int | sl => simp [tysOk] at hty
    · trivial
  · trivial
end
end Go.SE
set_option linter.unusedVariables false
set_option linter.unusedSimpArgs false
namespace Go.SE
open Go.RowKit

section
theorem pures_mem {l : List SV} (h : pures l = true) : ∀ u ∈ l, pure u = true := fun u hu => List.all_eq_true.1 (by rw [← pures_all]; exact h) u hu
variable {P : Program} {T : List (Nat × TI)} {XC X0 : Nat → Prop} {w0 : World} {st : St} {E : Env} {a : Act} {w : World}

theorem add_lit (b o n : Nat) : (⟨b, o, none⟩ : Addr).add n = ⟨b, o + n, none⟩ := by unfold Addr.add; split <;> simp_all

/-- Reading so many cells from an address on. -/
theorem load_cells (hT : TabOk P T) {t : TypeId} {ti : TI} (ht : ty T t = some ti) {ad : Addr} {l : List SV} (hl : ∀ j u, l[j]? = some u → w.cell? (ad.add j) = some (den E u)) {u : SV} (hm : ti.size ≤ l.length)
    (hu : ti.agg = true ∧ u = .a (l.take ti.size) ∨ ti.agg = false ∧ ti.size = 1 ∧ l[0]? = some u) : (loadVar t ad).run P w = .ok (den E u) w := by
  have hti := hT t ti (ty_mem ht)
  unfold loadVar
  simp only [Sem.run_bind, hti.agg_run w, Result.andThen]
  rcases hu with ⟨ha, rfl⟩ | ⟨ha, h1, h2⟩
  · simp only [ha, if_true, Sem.run_bind, hti.size_run w, Result.andThen]
    have hlen : (dens E (l.take ti.size)).length = ti.size := by rw [dens_map]; simp; omega
    have := run_loadCells_list (P := P) (w := w) ad (dens E (l.take ti.size)) (fun j v hv => by
      rw [dens_map, List.getElem?_map] at hv
      cases hj : (l.take ti.size)[j]? with
      | none => simp [hj] at hv
      | some x =>
        simp [hj] at hv
        subst hv
        exact hl j x (by rw [List.getElem?_take] at hj; split at hj <;> simp_all))
    rw [hlen] at this
    simp only [this, Sem.run_pure, den]
  · simp only [ha]
    have := hl 0 u h2
    simp only [Addr.add, if_true] at this
    simp [this]

theorem cells_at {i off : Nat} {cs : List SV} {t : TypeId} (ho : ObOk E w i (.cells cs t)) : ∀ j u, (cs.drop off)[j]? = some u → w.cell? ((⟨E.id i, off, none⟩ : Addr).add j) = some (den E u) := by
  intro j u hu
  rw [add_lit]
  simp only [World.cell?, ho.1]
  rw [List.getElem?_drop] at hu
  simp [dens_map, hu]


/-! rows -/
theorem flat_succ (n : Nat) (el : Nat → List SV) : flat (n + 1) el = flat n el ++ el n := by
  simp [flat, List.range_succ]
theorem flat_length {n k : Nat} {el : Nat → List SV} (h : ∀ j, j < n → (el j).length = k) : (flat n el).length = n * k := by
  induction n with
  | zero => simp [flat]
  | succ n ih => rw [flat_succ, List.length_append, ih fun j hj => h j (by omega), h n (by omega), Nat.succ_mul]
theorem flat_get {n k : Nat} {el : Nat → List SV} (h : ∀ j, j < n → (el j).length = k) {ix r : Nat} (hi : ix < n) (hr : r < k) : (flat n el)[ix * k + r]? = (el ix)[r]? := by
  induction n with
  | zero => omega
  | succ n ih =>
    have hl := flat_length (n := n) (k := k) (el := el) fun j hj => h j (by omega)
    rw [flat_succ]
    by_cases he : ix < n
    · rw [List.getElem?_append_left]
      · exact ih (fun j hj => h j (by omega)) he
      · rw [hl]
        calc ix * k + r < ix * k + k := by omega
          _ = (ix + 1) * k := by rw [Nat.succ_mul]
          _ ≤ n * k := Nat.mul_le_mul_right _ he
    · have : ix = n := by omega
      subst this
      rw [List.getElem?_append_right (by rw [hl]; omega), hl]
      congr 1; omega
theorem flat_congr {n : Nat} {el el' : Nat → List SV} (h : ∀ j, j < n → el j = el' j) : flat n el = flat n el' := by
  induction n with
  | zero => rfl
  | succ n ih => rw [flat_succ, flat_succ, ih fun j hj => h j (by omega), h n (by omega)]
theorem splice_append_left {l m cs : List SV} {off : Nat} (h : off + cs.length ≤ l.length) : splice (l ++ m) off cs = splice l off cs ++ m := by
  simp only [splice, List.append_assoc]
  rw [List.take_append_of_le_length (by omega), List.drop_append_of_le_length (by omega)]
theorem splice_append_right {l m cs : List SV} {off : Nat} : splice (l ++ m) (l.length + off) cs = l ++ splice m off cs := by
  simp only [splice, List.append_assoc, List.take_append, List.drop_append]
  rw [List.take_of_length_le (by omega), List.drop_eq_nil_of_le (by omega)]
  simp
  congr 2
  omega
theorem flat_set {n k : Nat} {el : Nat → List SV} (h : ∀ j, j < n → (el j).length = k) {ix off : Nat} {cs : List SV} (hi : ix < n) (ho : off + cs.length ≤ k) :
    splice (flat n el) (ix * k + off) cs = flat n (setEl ix (splice (el ix) off cs) el) := by
  induction n with
  | zero => omega
  | succ n ih =>
    have hl := flat_length (n := n) (k := k) (el := el) fun j hj => h j (by omega)
    rw [flat_succ, flat_succ]
    by_cases he : ix < n
    · rw [splice_append_left, ih (fun j hj => h j (by omega)) he]
      · congr 1
        simp only [setEl]
        rw [if_neg (by omega)]
      · rw [hl]
        calc ix * k + off + cs.length ≤ ix * k + k := by omega
          _ = (ix + 1) * k := by rw [Nat.succ_mul]
          _ ≤ n * k := Nat.mul_le_mul_right _ he
    · have : ix = n := by omega
      subst this
      rw [← hl, splice_append_right]
      congr 1
      · exact flat_congr fun j hj => by simp only [setEl]; rw [if_neg (by omega)]
      · simp [setEl]
theorem dens_flat_len {n k : Nat} {el : Nat → List SV} (h : ∀ j, j < n → (el j).length = k) : (dens E0 (flat n el)).length = n * k := by
  rw [dens_map, List.length_map, flat_length h]
theorem Row.read {e k n : Nat} {v : Value} {el : Nat → List SV} (h : Row w e k v n (dens E0 (flat n el))) (hl : ∀ j, j < n → (el j).length = k ∧ ∀ u ∈ el j, one u = true ∧ pure u = true) {ix : Nat} (hi : ix < n) :
    ∃ g, rowBlk v = some g ∧ ∀ r u, (el ix)[r]? = some u → w.cell? ⟨g, ix * k + r, none⟩ = some (den0 u) := by
  rcases h.2 with ⟨A, rfl, h0⟩ | ⟨g, c, cur, rfl, hg, hnc, hcm, hcs, ht⟩
  · omega
  · refine ⟨g, rfl, fun r u hu => ?_⟩
    have hr : r < k := by rw [← (hl ix hi).1]; exact (List.getElem?_eq_some_iff.1 hu).1
    have hp : ix * k + r < n * k := by
      calc ix * k + r < ix * k + k := by omega
        _ = (ix + 1) * k := by rw [Nat.succ_mul]
        _ ≤ n * k := Nat.mul_le_mul_right _ hi
    have h1 : (dens E0 (flat n el))[ix * k + r]? = some (den0 u) := by
      rw [dens_map, List.getElem?_map, flat_get (fun j hj => (hl j hj).1) hi hr, hu]; rfl
    rw [← ht, List.getElem?_take, if_pos hp] at h1
    rw [cell_of_row w g _ cur e (0, 0) hg]
    simpa using h1
theorem Row.write {e k n : Nat} {v : Value} {el : Nat → List SV} (h : Row w e k v n (dens E0 (flat n el))) (hl : ∀ j, j < n → (el j).length = k) {ix off : Nat} (hi : ix < n) {cs : List SV} (ho : off + cs.length ≤ k) {g : Nat} (hg : rowBlk v = some g) :
    ∃ cur, w.heap[g]? = some (.cells cur e (0, 0)) ∧ ix * k + off + cs.length ≤ cur.size ∧
      Row (w.setRow g (cur.toList.take (ix * k + off) ++ dens E0 cs ++ cur.toList.drop (ix * k + off + (dens E0 cs).length)).toArray) e k v n (dens E0 (flat n (setEl ix (splice (el ix) off cs) el))) := by
  have lcs : (dens E0 cs).length = cs.length := by rw [dens_map]; simp
  rcases h.2 with ⟨A, rfl, h0⟩ | ⟨g', c, cur, rfl, hg', hnc, hcm, hcs, ht⟩
  · omega
  · simp [rowBlk] at hg; subst hg
    have hp : ix * k + off + cs.length ≤ n * k := by
      calc ix * k + off + cs.length ≤ ix * k + k := by omega
        _ = (ix + 1) * k := by rw [Nat.succ_mul]
        _ ≤ n * k := Nat.mul_le_mul_right _ hi
    have hnk : n * k ≤ (c + 1) * k := Nat.mul_le_mul_right _ hnc
    refine ⟨cur, hg', by omega, ?_, .inr ⟨g', c, _, rfl, setRow_heap w g' cur _ e _ hg', hnc, hcm, ?_, ?_⟩⟩
    · rw [← flat_set hl hi ho, dens_map, List.length_map]
      simp only [splice, List.length_append, List.length_take, List.length_drop]
      have := flat_length hl
      omega
    · simp [lcs]; omega
    · rw [← flat_set hl hi ho]
      have e1 : dens E0 (splice (flat n el) (ix * k + off) cs) = (dens E0 (flat n el)).take (ix * k + off) ++ dens E0 cs ++ (dens E0 (flat n el)).drop (ix * k + off + cs.length) := by
        simp only [splice, dens_map, List.map_append, List.map_take, List.map_drop]
      rw [e1, ← ht, lcs]
      simp only [List.append_assoc]
      rw [List.take_append, List.take_append, List.take_take, List.take_take]
      simp only [List.length_take, Array.length_toList, lcs]
      rw [Nat.min_eq_left (by omega : ix * k + off ≤ cur.size), Nat.min_eq_right (by omega : ix * k + off ≤ n * k), Nat.min_eq_left (by omega : ix * k + off ≤ n * k), List.take_of_length_le (by omega : (dens E0 cs).length ≤ _), List.drop_take]
      congr 3
      omega
theorem setRow_other (w : World) (g : Nat) (c : Array Value) {b : Nat} (h : b ≠ g) : (w.setRow g c).heap[b]? = w.heap[b]? := by
  simp [World.setRow, Array.getElem?_modify, Ne.symm h]
theorem setRow_grown (w : World) (g : Nat) (c : Array Value) : w.grownBy (w.setRow g c) (some g) :=
  ⟨rfl, rfl, rfl, by simp [World.setRow], fun b _ hb => setRow_other w g c fun e => hb (by rw [e])⟩

theorem x_load (hT : TabOk P T) (hM : Models XC X0 w0 st E a w) {o : Oper} {t : TypeId} {x : Operand} (ho : o.op = .load t x) : XOk P XC X0 w0 st E a w o (exec T st o) := by
  simp only [exec, ho]
  split
  · rename_i ti ht
    split
    · rename_i i off hx
      obtain ⟨e1, e2⟩ := ev_ok hM hx
      split
      · rename_i cs t' hn
        have hob := hM.mem.ob i _ hn
        have hok := hM.mem.oko i _ hn
        refine pickC_ok (fun u hu => hok u (List.mem_of_mem_drop hu)) fun u hu hm hh => ?_
        refine value_ok hM hu ?_
        have := load_cells hT ht (cells_at hob (off := off)) hm hh
        simp [execOp, ho, Instr.loadAt, Instr.sureAddr, e1, den, Result.andThen, this]
      · trivial
    · rename_i ad l hx
      obtain ⟨e1, e2⟩ := ev_ok hM hx
      cases e2 with
      | e hs hX hc hp hk =>
        refine pickC_ok hk fun u hu hm hh => ?_
        refine value_ok hM hu ?_
        have := load_cells (E := E) hT ht (ad := ad) (l := l) (fun j u hu => by rw [den_pure E u (hp u (List.mem_of_getElem? hu)).1]; exact hc j u hu) hm hh
        simp [execOp, ho, Instr.loadAt, Instr.sureAddr, e1, den, Result.andThen, this]
    · rename_i i ix k off hx
      obtain ⟨e1, e2⟩ := ev_ok hM hx
      split
      · rename_i e' k' n el hn
        split
        · rename_i hk
          subst hk
          have key : ix < n → XOk P XC X0 w0 st E a w o (pickC ti.agg ti.size ((el ix).drop off) fun u => .ok (st.put o.dst u)) := fun hix => by
            have hob := hM.mem.ob i _ hn
            have hok := hM.mem.oko i _ hn
            obtain ⟨g, hg, hc⟩ := hob.1.read hob.2.1 hix
            refine pickC_ok (fun u hu => hok ix hix u (List.mem_of_mem_drop hu)) fun u hu hm hh => ?_
            refine value_ok hM hu ?_
            have := load_cells (E := E) hT ht (ad := ⟨g, ix * k' + off, none⟩) (l := (el ix).drop off) (fun j u hu => by
              rw [add_lit, Nat.add_assoc]
              rw [List.getElem?_drop] at hu
              rw [den_pure E u ((hob.2.1 ix hix).2 u (List.mem_of_getElem? hu)).2]
              exact hc _ u hu) hm hh
            simp [execOp, ho, Instr.loadAt, Instr.sureAddr, e1, den, hg, Result.andThen, this]
          split
          · rename_i st' he
            intro hix
            have := key hix
            rw [he] at this
            exact this
          · trivial
        · trivial
      · trivial
    · trivial
  · trivial

theorem one_den (hM : Models XC X0 w0 st E a w) {u : SV} (h : one u = true) : (den E u).oneCell' = true := by
  cases u with
  | v x => exact h
  | a | t => simp [one] at h
  | p | s | e | q | f | y | ifc | m => rfl
  | own i => exact hM.mem.val i
  | x j => exact hM.mem.unk j

theorem Models.store (hM : Models XC X0 w0 st E a w) {i : Nat} {cs cs' : List SV} {t : TypeId} (hn : nth st.ob i = some (.cells cs t)) (h1 : ∀ u ∈ cs', one u = true) (hk : ∀ u ∈ cs', Ok st.no (Ex XC E st.ob) w u) :
    Models XC X0 w0 { st with ob := upd st.ob i (.cells cs' t) } E a (w.setRow (E.id i) (dens E cs').toArray) := by
  have hob := hM.mem.ob i _ hn
  obtain ⟨m, mv⟩ := hM.mem.set (o' := .cells cs' t) hn (fun b h => h) (setRow_grown w _ _) ⟨setRow_heap w _ _ _ _ _ hob.1, h1⟩ hk
  exact hM.trans m (Nat.le_refl _) (EnvEq.refl _ _) mv
theorem x_store (hT : TabOk P T) (hM : Models XC X0 w0 st E a w) {o : Oper} {t : TypeId} {x y : Operand} (ho : o.op = .store t x y) : XOk P XC X0 w0 st E a w o (exec T st o) := by
  simp only [exec, ho]
  split
  · rename_i ti ht
    split
    · rename_i i off u hx hy
      obtain ⟨e1, e2⟩ := ev_ok hM hx
      obtain ⟨e3, e4⟩ := ev_ok hM hy
      split
      · rename_i cs t' hn
        split
        · rename_i hc
          obtain ⟨c1, c2, c3⟩ := hc
          rw [force_eq]
          have hob := hM.mem.ob i _ hn
          have hok := hM.mem.oko i _ hn
          have hmem : ∀ y ∈ splice cs off (cellsOf u), y ∈ cs ∨ y ∈ cellsOf u := fun y hy => by
            simp only [splice, List.mem_append] at hy
            rcases hy with (hy | hy) | hy
            · exact .inl (List.mem_of_mem_take hy)
            · exact .inr hy
            · exact .inl (List.mem_of_mem_drop hy)
          have hlen : (splice cs off (cellsOf u)).length = cs.length := by simp [splice]; omega
          have hM' := hM.store hn (fun y hy => (hmem y hy).elim (hob.2 y) (all_one c3 y)) (fun y hy => (hmem y hy).elim (hok y) (ok_cellsOf e4 y))
          have hput := hM'.put o.dst (u := .v undef) (v := undef) (.v _) rfl
          have hcu := cells_den E (all_one c3) hM.mem.unk hM.mem.val
          have l1 : (dens E (cellsOf u)).length = ti.size := by rw [dens_map]; simpa using c1
          have hst := run_storeCells_at (P := P) (E.id i) off t' (dens E (cellsOf u)) 0 (dens E cs).toArray w hob.1 (by simp [l1, dens_map]; omega) (fun v hv => by
            rw [dens_map] at hv
            obtain ⟨y, hy, rfl⟩ := List.mem_map.1 hv
            exact one_den hM (all_one c3 y hy))
          have hrow : ((dens E cs).toArray.toList.take (off + 0) ++ dens E (cellsOf u) ++ (dens E cs).toArray.toList.drop (off + 0 + (dens E (cellsOf u)).length)) = dens E (splice cs off (cellsOf u)) := by
            simp only [dens_map, splice, List.map_append, List.map_take, List.map_drop, List.length_map, Nat.add_zero]
          rw [hrow] at hst
          refine ⟨.skip, undef, E, w.setRow (E.id i) (dens E (splice cs off (cellsOf u))).toArray, ?_, .inr ⟨rfl, rfl⟩, ?_, fun hl => by simp [loud, ho] at hl, by simp only [wrow, wrote, ho, hx, Option.bind_some, hn, blk]; exact setRow_grown w _ _, EnvEq.refl _ _, fresh_upd (o1 := .cells (splice cs off (cellsOf u)) t') hn (fun b h => h) _ _⟩
          · have hsz : (den E u).cells.size = ti.size := by rw [hcu]; simpa using l1
            simp only [execOp, ho, Instr.storeAt, Instr.sureAddr, e1, e3, den, Sem.run_bind, Sem.run_pure, Result.andThen, storeVar, (hT t ti (ty_mem ht)).size_run w]
            rw [if_neg (by simp [hsz])]
            have : (den E u).cells.toList = dens E (cellsOf u) := by rw [hcu]
            rw [this, hst]
          · cases hd : o.dst <;> (rw [hd] at hput; exact hput)
        · trivial
      · trivial
    · rename_i i ix k off u hx hy
      obtain ⟨e1, e2⟩ := ev_ok hM hx
      obtain ⟨e3, e4⟩ := ev_ok hM hy
      split
      · rename_i e' k' n el hn
        split
        · rename_i hc
          obtain ⟨rfl, c1, c2, c3, c4⟩ := hc
          have hob := hM.mem.ob i _ hn
          have main : ix < n → StepOk P XC X0 w0 st E a w o { (st.put o.dst (.v undef)) with ob := upd st.ob i (.row e' k' n (setEl ix (splice (el ix) off (cellsOf u)) el)) } := by
            intro hix
            have hok := hM.mem.oko i _ hn
            obtain ⟨g, hg, _⟩ := hob.1.read hob.2.1 hix
            obtain ⟨cur, hcur, hfit, hrow⟩ := hob.1.write (fun j hj => (hob.2.1 j hj).1) hix (off := off) (cs := cellsOf u) (by omega) hg
            have hcu := cells_den E (all_one c3) hM.mem.unk hM.mem.val
            have hdp : dens E (cellsOf u) = dens E0 (cellsOf u) := dens_pure E _ c4
            have l1 : (dens E0 (cellsOf u)).length = ti.size := by rw [dens_map]; simpa using c1
            have hmem : ∀ y ∈ splice (el ix) off (cellsOf u), y ∈ el ix ∨ y ∈ cellsOf u := fun y hy => by
              simp only [splice, List.mem_append] at hy
              rcases hy with (hy | hy) | hy
              · exact .inl (List.mem_of_mem_take hy)
              · exact .inr hy
              · exact .inl (List.mem_of_mem_drop hy)
            have hst := run_storeCells_at (P := P) g (ix * k' + off) e' (dens E0 (cellsOf u)) 0 cur w hcur (by rw [l1]; omega) (fun v hv => by
              rw [← hdp, dens_map] at hv
              obtain ⟨y, hy, rfl⟩ := List.mem_map.1 hv
              exact one_den hM (all_one c3 y hy))
            simp only [Nat.add_zero] at hst
            obtain ⟨m, mv⟩ := hM.mem.set (o' := .row e' k' n (setEl ix (splice (el ix) off (cellsOf u)) el)) hn (fun b h => h) (w' := w.setRow g _) (by show World.grownBy _ _ (rowBlk (E.val i)); rw [hg]; exact setRow_grown w g _) ⟨hrow, fun j hj => by
                simp only [setEl]
                split
                · rename_i hji; subst hji
                  have := (hob.2.1 j hix).1
                  exact ⟨by simp [splice]; omega, fun y hy => (hmem y hy).elim ((hob.2.1 j hix).2 y) fun hy => ⟨all_one c3 y hy, pures_mem c4 y hy⟩⟩
                · exact hob.2.1 j hj, hob.2.2⟩ (fun j hj y hy => by
                simp only [setEl] at hy
                split at hy
                · rename_i hji; subst hji
                  exact (hmem y hy).elim (hok j hix y) (ok_cellsOf e4 y)
                · exact hok j hj y hy)
            have hput := (hM.trans m (Nat.le_refl _) (EnvEq.refl _ _) mv).put o.dst (u := .v undef) (v := undef) (.v _) rfl
            refine ⟨.skip, undef, E, w.setRow g (cur.toList.take (ix * k' + off) ++ dens E0 (cellsOf u) ++ cur.toList.drop (ix * k' + off + (dens E0 (cellsOf u)).length)).toArray, ?_, .inr ⟨rfl, rfl⟩, ?_, fun hl => by simp [loud, ho] at hl, by simp only [wrow, wrote, ho, hx, Option.bind_some, hn, blk, hg]; exact setRow_grown w _ _, EnvEq.refl _ _, fresh_upd (o1 := .row e' k' n (setEl ix (splice (el ix) off (cellsOf u)) el)) hn (fun b h => h) _ _⟩
            · have hsz : (den E u).cells.size = ti.size := by rw [hcu, hdp]; simpa using l1
              simp only [execOp, ho, Instr.storeAt, Instr.sureAddr, e1, e3, den, hg, Option.getD_some, Sem.run_bind, Sem.run_pure, Result.andThen, storeVar, (hT t ti (ty_mem ht)).size_run w]
              rw [if_neg (by simp [hsz])]
              have : (den E u).cells.toList = dens E0 (cellsOf u) := by rw [hcu, hdp]
              rw [this, hst]
            · cases hd : o.dst <;> (rw [hd] at hput; exact hput)
          split
          · rename_i hw
            intro hix
            have h := main hix
            have hl := (hob.2.1 ix hix).1
            have hsp : splice (el ix) off (cellsOf u) = cellsOf u := by
              rw [hw.1]
              simp only [splice, List.take_zero, List.nil_append, Nat.zero_add]
              rw [List.drop_eq_nil_of_le (by omega)]; simp
            rw [hsp] at h
            exact h
          · rw [force_eq]
            exact main
        · trivial
      · trivial
    · trivial
  · trivial
end
end Go.SE
set_option linter.unusedVariables false
set_option linter.unusedSimpArgs false
namespace Go.SE
open Go.RowKit

section
variable {P : Program} {T : List (Nat × TI)} {XC X0 : Nat → Prop} {w0 : World} {st : St} {E : Env} {a : Act} {w : World}

theorem x_nilCheck (hM : Models XC X0 w0 st E a w) {o : Oper} {x : Operand} (ho : o.op = .nilCheck x) : XOk P XC X0 w0 st E a w o (exec T st o) := by
  simp only [exec, ho]
  split
  all_goals first
    | trivial
    | (rename_i hx; obtain ⟨e1, e2⟩ := ev_ok hM hx; exact value_ok hM e2 (by simp [execOp, ho, e1, den]))

theorem guard_int (op : BinOp) (t : TypeId) (x y : Operand) (k k' : IntKind) (p q : Int) : (eqGuard op t x y (.int k p) (.int k' q)).run P w = .ok () w := by
  unfold eqGuard
  cases op <;> rfl
theorem guard_bool (op : BinOp) (t : TypeId) (x y : Operand) (p q : Bool) : (eqGuard op t x y (.bool p) (.bool q)).run P w = .ok () w := by
  unfold eqGuard
  cases op <;> rfl
theorem guard_slice (op : BinOp) (t : TypeId) (x y : Operand) (A B : Option Addr) (n c n' c' : Nat) : (eqGuard op t x y (.slice A n c) (.slice B n' c')).run P w = .ok () w := by
  unfold eqGuard
  cases op <;> rfl

theorem binI_ok {op : BinOp} {k : IntKind} {t : TypeId} {p q : Int} {u : SV} (hns : op ≠ .shl ∧ op ≠ .shr) (h : binI op k p q = .ok u ∨ ∃ c, binI op k p q = .need c u ∧ c) :
    (binOp op t (.int k p) (.int k q)).run P w = .ok (den E u) w ∧ ∃ x, u = .v x := by
  rcases h with h | ⟨c, h, hc⟩
  · cases op <;> simp [binI] at h <;> subst h <;> simp [binOp, Op.intArith, Op.intBits, Op.intCmp, bw, den]
  · cases op <;> (first | (simp [binI] at h; done) | skip) <;> (unfold binI at h; obtain ⟨rfl, rfl⟩ := BR.need.inj h; simp [binOp, Op.intDiv, hc, den])

theorem equal_bool {t : TypeId} (hr : (underlying t).run P w = .ok .bool w) (p q : Bool) : (Op.equal t (.bool p) (.bool q)).run P w = .ok (p == q) w := by
  show (Op.equalIn (9999 + 1) t (.bool p) (.bool q)).run P w = _
  rw [Op.equalIn, Sem.run_bind, hr]
  rfl
theorem equal_slice {t e : TypeId} (hr : (underlying t).run P w = .ok (.slice e) w) (A : Option Addr) (n c : Nat) : (Op.equal t (.slice A n c) (.slice none 0 0)).run P w = .ok A.isNone w := by
  show (Op.equalIn (9999 + 1) t (.slice A n c) (.slice none 0 0)).run P w = _
  rw [Op.equalIn, Sem.run_bind, hr]
  cases A <;> rfl
/-- A row of integers of these kinds. -/
def mkI : List IntKind → List Int → List Value
  | k :: ks, x :: xs => .int k x :: mkI ks xs
  | _, _ => []
theorem mkI_length {ks : List IntKind} {xs : List Int} (h : xs.length = ks.length) : (mkI ks xs).length = ks.length := by
  induction ks generalizing xs with
  | nil => rfl
  | cons k ks ih => cases xs with
    | nil => simp at h
    | cons x xs => simp only [mkI, List.length_cons]; rw [ih (by simpa using h)]
/-- What is asked of a type whose structs are compared. -/
def EqOk (P : Program) (T : List (Nat × TI)) : Prop := ∀ t ti ks, ty T t = some ti → ti.eqs = some ks →
  (∀ (op : BinOp) (x y : Operand) (p q : Array Value) w, (eqGuard op t x y (.agg p) (.agg q)).run P w = .ok () w) ∧
  ∀ xs ys : List Int, xs.length = ks.length → ys.length = ks.length → ∀ w, (Op.equal t (.agg (mkI ks xs).toArray) (.agg (mkI ks ys).toArray)).run P w = .ok (xs == ys) w
theorem eqb_ints {ks : List IntKind} {l l' : List SV} {b : Bool} (h : eqb ks l l' = some b) : ∃ xs ys : List Int, xs.length = ks.length ∧ ys.length = ks.length ∧ (∀ E, dens E l = mkI ks xs ∧ dens E l' = mkI ks ys) ∧ b = (xs == ys) := by
  fun_induction eqb ks l l' generalizing b with
  | case1 k k1 x k2 y hk =>
    obtain ⟨rfl, rfl⟩ := hk
    simp at h; subst h
    exact ⟨[x], [y], rfl, rfl, fun E => ⟨rfl, rfl⟩, by simp⟩
  | case2 => simp at h
  | case3 k ks k1 x r k2 y s hn hk b' hb ih =>
    obtain ⟨rfl, rfl⟩ := hk
    simp at h; subst h
    obtain ⟨xs, ys, h1, h2, h3, rfl⟩ := ih hb
    exact ⟨x :: xs, y :: ys, by simp [h1], by simp [h2], fun E => ⟨by simp [dens, den, mkI, (h3 E).1], by simp [dens, den, mkI, (h3 E).2]⟩, by simp⟩
  | case4 => simp at h
  | case5 => simp at h
  | case6 => simp at h

theorem x_binOp (hT : TabOk P T) (hE : EqOk P T) (hM : Models XC X0 w0 st E a w) {o : Oper} {op : BinOp} {t t' : TypeId} {x y : Operand} (ho : o.op = .binOp op t x y t') : XOk P XC X0 w0 st E a w o (exec T st o) := by
  simp only [exec, ho]
  split
  · rename_i p q hx hy
    have e1 := (ev_ok hM hx).1
    have e2 := (ev_ok hM hy).1
    have run : ∀ v, (eqGuard op t x y (den E p) (den E q)).run P w = .ok () w → (binOp op t (den E p) (den E q)).run P w = .ok v w → (execOp a.eval o).run P w = .ok (.value v) w := fun v h1 h2 => by
      simp only [execOp, ho, e1, e2, Sem.run_bind, h1, Result.andThen, h2, Sem.run_pure]
    have key : ∀ u, (binS T op t p q = .ok u ∨ ∃ c, binS T op t p q = .need c u ∧ c) → StepOk P XC X0 w0 st E a w o (st.put o.dst u) := by
      intro u h
      unfold binS at h
      split at h
      · rename_i k pv k' qv
        split at h
        · rcases h with h | ⟨c, h, hc⟩
          · simp at h
          · obtain ⟨rfl, rfl⟩ := BR.need.inj h
            refine value_ok' hM (.v _) rfl (run _ (guard_int ..) ?_)
            simp only [den, binOp, Op.shift]
            rw [if_neg (by omega)]
            rfl
        · rcases h with h | ⟨c, h, hc⟩
          · simp at h
          · obtain ⟨rfl, rfl⟩ := BR.need.inj h
            refine value_ok' hM (.v _) rfl (run _ (guard_int ..) ?_)
            simp only [den, binOp, Op.shift]
            rw [if_neg (by omega)]
            rfl
        · rename_i hn1 hn2
          split at h
          · rename_i hk
            subst hk
            obtain ⟨h1, x', rfl⟩ := binI_ok (P := P) (E := E) (w := w) (t := t) ⟨fun e => hn1 e, fun e => hn2 e⟩ h
            exact value_ok hM (.v _) (run _ (guard_int ..) h1)
          · simp at h
      · rename_i pv qv
        split at h
        · rename_i sz by_ z eqs ht
          obtain ⟨d, hd, hf, hr⟩ := (hT t _ (ty_mem ht)).under_run w
          have hf' : d = .bool := hf
          subst hf'
          have heq := equal_bool hr pv qv
          split at h
          · rcases h with h | ⟨c, h, hc⟩
            · simp at h; subst h
              refine value_ok' hM (.v _) rfl (run _ (guard_bool ..) ?_)
              simp [den, binOp, heq, Result.andThen]
            · simp at h
          · rcases h with h | ⟨c, h, hc⟩
            · simp at h; subst h
              refine value_ok' hM (.v _) rfl (run _ (guard_bool ..) ?_)
              simp only [den, binOp, Sem.run_bind, heq, Result.andThen, Sem.run_pure]
            · simp at h
          · simp at h
        · simp at h
      · rename_i l l'
        split at h
        · rename_i sz by_ d z ks ht
          split at h
          · rename_i b hb
            obtain ⟨g1, g2⟩ := hE t _ _ ht rfl
            obtain ⟨xs, ys, q1, q2, q3, rfl⟩ := eqb_ints hb
            have heq := g2 xs ys q1 q2 w
            rw [← (q3 E).1, ← (q3 E).2] at heq
            split at h
            · rcases h with h | ⟨c, h, hc⟩
              · simp at h; subst h
                refine value_ok' hM (.v _) rfl (run _ (g1 ..) ?_)
                simp only [den, binOp, Sem.run_bind, heq, Result.andThen, Sem.run_pure]
              · simp at h
            · rcases h with h | ⟨c, h, hc⟩
              · simp at h; subst h
                refine value_ok' hM (.v _) rfl (run _ (g1 ..) ?_)
                simp only [den, binOp, Sem.run_bind, heq, Result.andThen, Sem.run_pure]
              · simp at h
            · simp at h
          · simp at h
        · simp at h
      · rename_i A n c k el
        split at h
        · rename_i sz by_ e z eqs ht
          obtain ⟨d, hd, hf, hr⟩ := (hT t _ (ty_mem ht)).under_run w
          have hf' : d = .slice e := hf
          subst hf'
          have heq := equal_slice hr A n c
          split at h
          · rcases h with h | ⟨c, h, hc⟩
            · simp at h; subst h
              refine value_ok' hM (.v _) rfl (run _ (guard_slice ..) ?_)
              simp only [den, binOp, Sem.run_bind, heq, Result.andThen, Sem.run_pure]
            · simp at h
          · rcases h with h | ⟨c, h, hc⟩
            · simp at h; subst h
              refine value_ok' hM (.v _) rfl (run _ (guard_slice ..) ?_)
              simp only [den, binOp, Sem.run_bind, heq, Result.andThen, Sem.run_pure]
              cases A <;> rfl
            · simp at h
          · simp at h
        · simp at h
      · simp at h
    cases hb : binS T op t p q with
    | ok u => exact key u (.inl hb)
    | need c u => exact fun hc => key u (.inr ⟨c, hb, hc⟩)
    | no => trivial
  · trivial

theorem x_unOp (hM : Models XC X0 w0 st E a w) {o : Oper} {op : UnOp} {t : TypeId} {x : Operand} (ho : o.op = .unOp op t x) : XOk P XC X0 w0 st E a w o (exec T st o) := by
  simp only [exec, ho]
  split
  · rename_i p hx
    obtain ⟨e1, e2⟩ := ev_ok hM hx
    refine of_ok hM fun u hu => ?_
    unfold unS at hu
    split at hu
    · simp at hu; subst hu
      exact ⟨.v _, by simp [execOp, ho, e1, den, Op.unary, Op.intArith, Result.andThen]⟩
    · simp at hu; subst hu
      exact ⟨.v _, by simp [execOp, ho, e1, den, Op.unary, Op.intBits, Result.andThen, bw]⟩
    · simp at hu; subst hu
      exact ⟨.v _, by simp [execOp, ho, e1, den, Op.unary, Result.andThen]⟩
    · simp at hu
  · trivial

theorem x_extract (hM : Models XC X0 w0 st E a w) {o : Oper} {x : Operand} {i : Nat} (ho : o.op = .extract x i) : XOk P XC X0 w0 st E a w o (exec T st o) := by
  simp only [exec, ho]
  split
  · rename_i l hx
    obtain ⟨e1, e2⟩ := ev_ok hM hx
    refine of_ok hM fun u hu => ⟨?_, ?_⟩
    · cases e2 with
      | t h => exact h u (List.mem_of_getElem? hu)
    · have : (dens E l).toArray[i]? = some (den E u) := by simp [dens_map, hu]
      simp [execOp, ho, e1, den, Instr.extract, this, Result.andThen]
  · trivial
theorem x_makeFunc (hM : Models XC X0 w0 st E a w) {o : Oper} {fn : Fn} {fi ca : Array Operand} (ho : o.op = .makeFunc fn fi ca) : XOk P XC X0 w0 st E a w o (exec T st o) := by
  simp only [exec, ho]
  split
  · rename_i l h1 h2
    obtain ⟨e1, e2⟩ := evs_ok hM h2
    refine value_ok hM (.f e2) ?_
    have hfi : fi = #[] := by rw [← Array.toList_eq_nil_iff]; exact h1
    have : ca.map a.eval = (dens E l).toArray := by rw [← e1]; exact Array.ext' (by simp)
    simp [execOp, ho, Instr.makeFunc, hfi, this, den]
  · trivial
end
end Go.SE
