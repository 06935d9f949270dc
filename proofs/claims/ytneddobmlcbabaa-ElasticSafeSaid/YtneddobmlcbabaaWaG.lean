/- A walk by symbols over the given program, a part of it: lemmas alone; what is claimed stands in the last text. No conditions of its own. -/
import Derived.Test.YtneddobmlcbabaaWaC
import Derived.Test.YtneddobmlcbabaaWaF
set_option linter.unusedVariables false
set_option linter.unusedSimpArgs false
namespace Go.Proofs.Ytneddobmlcbabaa
open Go.SE
open Go.RowKit
set_option maxRecDepth 100000
set_option maxHeartbeats 4000000

def i64 (x : Int) : SV := .v (.int .i64 x)
def u64 (x : Int) : SV := .v (.int .u64 x)
def bo (x : Bool) : SV := .v (.bool x)
def shp (g c mn mx : Int) : SV := .a [i64 g, i64 c, i64 mn, i64 mx]
def checkV (g c mn mx : Int) : Int := if 0 ≤ g ∧ g ≤ 16 ∧ 0 ≤ c ∧ c ≤ 1024 ∧ 1 ≤ mn ∧ mn ≤ mx ∧ 1 ≤ mx ∧ mx ≤ 16 ∧ ¬ (g = 0 ∧ c = 0) then 0 else 1
theorem checkV_1 {g c mn mx : Int} (h : ¬ (0 ≤ g ∧ g ≤ 16 ∧ 0 ≤ c ∧ c ≤ 1024 ∧ 1 ≤ mn ∧ mn ≤ mx ∧ 1 ≤ mx ∧ mx ≤ 16 ∧ ¬ (g = 0 ∧ c = 0))) : retV [i64 1] = i64 (checkV g c mn mx) := by rw [checkV, if_neg h]; rfl
theorem checkV_0 {g c mn mx : Int} (h : (0 ≤ g ∧ g ≤ 16 ∧ 0 ≤ c ∧ c ≤ 1024 ∧ 1 ≤ mn ∧ mn ≤ mx ∧ 1 ≤ mx ∧ mx ≤ 16 ∧ ¬ (g = 0 ∧ c = 0))) : retV [i64 0] = i64 (checkV g c mn mx) := by rw [checkV, if_pos h]; rfl
theorem check_ok (g c mn mx : Int) : PureC Try.prog 47 [shp g c mn mx] Unit (fun _ => i64 (checkV g c mn mx)) (fun _ => True) := by
  refine pureC_intro Try.func47 rfl rfl rfl (fun _ => rfl) (Nat.le_of_ble_eq_true rfl) fun XC w0 => ?_
  repeat' first
    | (refine p_loop (n := 60) C rfl ?_)
    | (refine p_br (n := 60) C rfl (fun h => ?_) (fun h => ?_) <;> first | (exact absurd h (by decide)) | (simp only [cond_true, cond_false, decide_eq_true_eq, decide_eq_false_iff_not, beq_iff_eq, beq_eq_false_iff_ne, ne_eq] at h))
    | (refine p_ret (n := 60) C Try.func47 rfl rfl rfl rfl () trivial ?_ rfl; first | exact checkV_1 (by omega) | exact checkV_0 (by omega))

def a64 (x y : Int) : Int := bw .and .u64 x y
def ad64 (x y : Int) : Int := IntKind.u64.wrap (x + y)
def sh64 (x : Int) (k : Nat) : Int := x.fdiv (2 ^ (min k 64))
def cnt1 (x : Int) : Int := ad64 (a64 (sh64 x 1) 6148914691236517205) (a64 x 6148914691236517205)
def cnt2 (x : Int) : Int := ad64 (a64 (sh64 x 2) 3689348814741910323) (a64 x 3689348814741910323)
def cnt3 (x : Int) : Int := a64 (ad64 (sh64 x 4) x) 1085102592571150095
def cnt4 (x : Int) (k : Nat) : Int := ad64 x (sh64 x k)
def cntE (x : Int) : Int := bw .and .i64 (IntKind.i64.wrap (cnt4 (cnt4 (cnt4 (cnt3 (cnt2 (cnt1 x))) 8) 16) 32)) 127
theorem ones_ok (x : Int) : PureC Try.prog 100 [u64 x] Unit (fun _ => i64 (cntE x)) (fun _ => True) := by
  refine pureC_intro Try.func100 rfl rfl rfl (fun _ => rfl) (Nat.le_of_ble_eq_true rfl) fun XC w0 => ?_
  refine p_need (n := 100) C rfl (by decide) ?_
  refine p_need (n := 100) C rfl (by decide) ?_
  refine p_need (n := 100) C rfl (by decide) ?_
  refine p_need (n := 100) C rfl (by decide) ?_
  refine p_need (n := 100) C rfl (by decide) ?_
  refine p_need (n := 100) C rfl (by decide) ?_
  exact p_ret (n := 100) C Try.func100 rfl rfl rfl rfl () trivial rfl rfl
theorem count_ok (x : Int) : PureC Try.prog 75 [u64 x] Unit (fun _ => i64 (cntE x)) (fun _ => True) := by
  refine pureC_intro Try.func75 rfl rfl rfl (fun _ => rfl) (Nat.le_of_ble_eq_true rfl) fun XC w0 => ?_
  refine p_call (n := 100) C (ones_ok x) rfl rfl fun _ _ => ?_
  exact p_ret (n := 100) C Try.func75 rfl rfl rfl rfl () trivial rfl rfl
def eachV (have_ need : Int) : Int := if need = 0 then 16 else IntKind.i64.wrap (have_.tdiv need)
theorem each_ok (x y : Int) : PureC Try.prog 73 [i64 x, i64 y] Unit (fun _ => i64 (eachV x y)) (fun _ => True) := by
  refine pureC_intro Try.func73 rfl rfl rfl (fun _ => rfl) (Nat.le_of_ble_eq_true rfl) fun XC w0 => ?_
  refine p_br (n := 60) C rfl (fun h => ?_) (fun h => ?_)
  · simp only [beq_iff_eq] at h
    exact p_ret (n := 60) C Try.func73 rfl rfl rfl rfl () trivial (by rw [eachV, if_pos h]; rfl) rfl
  · simp only [beq_eq_false_iff_ne, ne_eq] at h
    refine p_need (n := 60) C rfl h ?_
    exact p_ret (n := 60) C Try.func73 rfl rfl rfl rfl () trivial (by rw [eachV, if_neg h]; rfl) rfl
def minI (x y : Int) : Int := if y < x then y else x
theorem least_ok (A : Option Addr) (c : Nat) (x y z : Int) : PureC Try.prog 74 [.s A 3 c 1 (rowEl 1 [i64 x, i64 y, i64 z])] Unit (fun _ => i64 (minI (minI x y) z)) (fun _ => True) := by
  refine pureC_intro Try.func74 rfl rfl rfl (fun _ => rfl) (Nat.le_of_ble_eq_true rfl) fun XC w0 => ?_
  refine p_need (n := 60) C rfl (by decide) ?_
  refine p_need (n := 60) C rfl (by decide) ?_
  refine p_loop (n := 60) C rfl ?_
  refine p_br (n := 60) C rfl (fun _ => ?_) (fun h => absurd h (by decide))
  refine p_need (n := 60) C rfl (by decide) ?_
  refine p_loop (n := 60) C rfl ?_
  refine p_br (n := 60) C rfl (fun _ => ?_) (fun h => absurd h (by decide))
  refine p_need (n := 60) C rfl (by decide) ?_
  refine p_loop (n := 60) C rfl ?_
  refine p_br (n := 60) C rfl (fun h => absurd h (by decide)) (fun _ => ?_)
  exact p_ret (n := 60) C Try.func74 rfl rfl rfl rfl () trivial rfl rfl
def fre (nd dm m c : Int) : SV := .a [i64 nd, i64 dm, u64 m, i64 c]
def fitsV (g cp mn mx m c : Int) : Int := if checkV g cp mn mx ≠ 0 ∨ c < 0 then 0 else minI (minI 16 (eachV (cntE m) g)) (eachV c cp)
theorem fits_ok (g cp mn mx nd dm m c : Int) : PureC Try.prog 55 [shp g cp mn mx, fre nd dm m c] Unit (fun _ => i64 (fitsV g cp mn mx m c)) (fun _ => True) := by
  refine pureC_intro Try.func55 rfl rfl rfl (fun _ => rfl) (Nat.le_of_ble_eq_true rfl) fun XC w0 => ?_
  refine p_call (n := 60) C (check_ok g cp mn mx) rfl rfl fun _ _ => ?_
  have ret0 : (checkV g cp mn mx ≠ 0 ∨ c < 0) → retV [i64 0] = i64 (fitsV g cp mn mx m c) := fun h => by rw [fitsV, if_pos h]; rfl
  refine p_br (n := 60) C rfl (fun h1 => ?_) (fun h1 => ?_)
  · simp only [bne_iff_ne, ne_eq] at h1
    refine p_br (n := 60) C rfl (fun _ => ?_) (fun h => absurd h (by decide))
    exact p_ret (n := 60) C Try.func55 rfl rfl rfl rfl () trivial (ret0 (.inl h1)) rfl
  · simp only [bne_eq_false_iff_eq] at h1
    refine p_br (n := 60) C rfl (fun h2 => ?_) (fun h2 => ?_)
    · simp only [cond_true, cond_false, decide_eq_true_eq] at h2
      exact p_ret (n := 60) C Try.func55 rfl rfl rfl rfl () trivial (ret0 (.inr h2)) rfl
    · simp only [cond_true, cond_false, decide_eq_false_iff_not] at h2
      refine p_at (n := 60) C rfl ?_
      refine p_draw C [] (.t 0 <| .t 1 <| .t 2 <| .t 4 <| .t 5 <| .t 7 <| .t 8 <| .t 9 <| .t 10 <| .t 11 <| .o 3 <| .o 6 <| .o 12 <| .o 13 <| .o 14 <| .t 15 .d) (by kernel_rfl) (by kernel_rfl) ?_
      refine d_call C (count_ok m) rfl fun _ _ => ?_
      refine d_call C (each_ok (cntE m) g) rfl fun _ _ => ?_
      refine d_call C (each_ok c cp) rfl fun _ _ => ?_
      refine d_at C rfl ?_
      refine d_frz 2 rfl rfl fun A cc => ?_
      refine d_call C (least_ok A cc 16 (eachV (cntE m) g) (eachV c cp)) rfl fun _ _ => ?_
      refine d_fin C rfl ?_
      exact p_ret (n := 60) C Try.func55 rfl rfl rfl rfl () trivial (by rw [fitsV, if_neg (by rintro (h | h); exact h h1; exact h2 h)]; rfl) rfl
end Go.Proofs.Ytneddobmlcbabaa
namespace Go.Proofs.Ytneddobmlcbabaa
open Go.SE
open Go.RowKit
set_option maxRecDepth 100000
set_option maxHeartbeats 4000000

structure FreeD where
  nd : Int
  dm : Int
  m : Int
  c : Int
  deriving Inhabited
structure UnitsD where
  g : Int
  c : Int
  deriving Inhabited
structure ShapeD where
  g : Int
  c : Int
  mn : Int
  mx : Int
  deriving Inhabited
structure JobD where
  id : Int
  queue : Int
  prio : Int
  runtime : Int
  sh : ShapeD
  deriving Inhabited
/-- a slice: where, how much room, and what is in it -/
structure Sl (α : Type) where
  A : Option Addr
  c : Nat
  l : List α
  deriving Inhabited
structure HoldD where
  id : Int
  queue : Int
  until_ : Int
  running : Bool
  slots : Sl FreeD
  deriving Inhabited
structure WaitD where
  job : JobD
  since : Int
  number : Int
  deriving Inhabited
structure RecordD where
  job : JobD
  xs : Int × Int × Int × Int × Int × Int × Int × Int
  deriving Inhabited
structure LookD where
  now : Int
  head : Int
  promise : Int
  timeout : Int
  view : Sl FreeD
  left : Sl UnitsD
  ends : Sl HoldD
  waits : Sl WaitD
  running : Sl RecordD
  deriving Inhabited
def FreeD.cs (f : FreeD) : List SV := [i64 f.nd, i64 f.dm, u64 f.m, i64 f.c]
def UnitsD.cs (f : UnitsD) : List SV := [i64 f.g, i64 f.c]
def ShapeD.cs (f : ShapeD) : List SV := [i64 f.g, i64 f.c, i64 f.mn, i64 f.mx]
def JobD.cs (f : JobD) : List SV := [i64 f.id, i64 f.queue, i64 f.prio, i64 f.runtime, i64 f.sh.g, i64 f.sh.c, i64 f.sh.mn, i64 f.sh.mx]
def Sl.sv {α : Type} [Inhabited α] (k : Nat) (enc : α → List SV) (s : Sl α) : SV := .s s.A s.l.length s.c k fun j => enc (s.l.getD j default)
def HoldD.cs (f : HoldD) : List SV := [i64 f.id, i64 f.queue, i64 f.until_, bo f.running, f.slots.sv 4 FreeD.cs]
def WaitD.cs (f : WaitD) : List SV := [i64 f.job.id, i64 f.job.queue, i64 f.job.prio, i64 f.job.runtime, i64 f.job.sh.g, i64 f.job.sh.c, i64 f.job.sh.mn, i64 f.job.sh.mx, i64 f.since, i64 f.number]
def RecordD.cs (f : RecordD) : List SV := [i64 f.job.id, i64 f.job.queue, i64 f.job.prio, i64 f.job.runtime, i64 f.job.sh.g, i64 f.job.sh.c, i64 f.job.sh.mn, i64 f.job.sh.mx, i64 f.xs.1, i64 f.xs.2.1, i64 f.xs.2.2.1, i64 f.xs.2.2.2.1, i64 f.xs.2.2.2.2.1, i64 f.xs.2.2.2.2.2.1, i64 f.xs.2.2.2.2.2.2.1, i64 f.xs.2.2.2.2.2.2.2]
def LookD.cs (f : LookD) : List SV := [i64 f.now, i64 f.head, i64 f.promise, i64 f.timeout, f.view.sv 4 FreeD.cs, f.left.sv 2 UnitsD.cs, f.ends.sv 5 HoldD.cs, f.waits.sv 10 WaitD.cs, f.running.sv 16 RecordD.cs]

theorem wrapN {j : Nat} (h : j < 9223372036854775807) : IntKind.i64.wrap ((j : Int) + 1) = ((j + 1 : Nat) : Int) := by
  simp [IntKind.wrap, IntKind.bits, IntKind.signed]; omega
def fitsF (s : ShapeD) (f : FreeD) : Int := fitsV s.g s.c s.mn s.mx f.m f.c
def roomV (s : ShapeD) (l : List FreeD) : Int := l.foldl (fun n f => IntKind.i64.wrap (n + fitsF s f)) 0
theorem foldl_take_succ {α β : Type} [Inhabited α] (f : β → α → β) (b : β) (l : List α) (j : Nat) (h : j < l.length) : (l.take (j + 1)).foldl f b = f ((l.take j).foldl f b) (l.getD j default) := by
  rw [List.take_add_one, List.foldl_append]
  simp [h]
theorem roomV_succ (s : ShapeD) {l : List FreeD} {j : Nat} (h : j < l.length) : roomV s (l.take (j + 1)) = IntKind.i64.wrap (roomV s (l.take j) + fitsF s (l.getD j default)) := foldl_take_succ _ _ _ _ h
theorem room_ok (v : Sl FreeD) (s : ShapeD) (hl : v.l.length < 4294967296) : PureC Try.prog 48 [v.sv 4 FreeD.cs, .a s.cs] Unit (fun _ => i64 (roomV s v.l)) (fun _ => True) := by
  refine pureC_intro Try.func48 rfl rfl rfl (fun _ => rfl) (Nat.le_of_ble_eq_true rfl) fun XC w0 => ?_
  refine p_loop (n := 60) C rfl ?_
  let I : Nat → St := fun j => ⟨[(10, i64 (j : Int)), (9, i64 (v.l.length : Int)), (8, v.sv 4 FreeD.cs), (5, i64 (roomV s (v.l.take j))), (3, .p 0 0)], [(0, .cells s.cs 30)], 21, 1, [], []⟩
  refine p_weaken (st1 := I 0) id (p_inv I (fun j => j ≤ v.l.length) (fun j => v.l.length - j) (fun j hj ih => ?_) 0 (Nat.zero_le _)) (.inl rfl) rfl ⟨rfl, rfl, rfl, rfl, rfl, rfl, rfl, rfl, rfl, rfl, trivial⟩ ⟨⟨rfl, rfl, rfl⟩, Nat.le_of_ble_eq_true rfl, trivial⟩ rfl rfl rfl trivial
  refine p_br (n := 60) C rfl (fun h => ?_) (fun h => ?_)
  · simp only [decide_eq_true_eq, Int.ofNat_lt] at h
    refine p_need (n := 60) C rfl (by omega) ?_
    refine p_call (n := 60) C (fits_ok s.g s.c s.mn s.mx (v.l.getD j default).nd (v.l.getD j default).dm (v.l.getD j default).m (v.l.getD j default).c) rfl rfl fun _ _ => ?_
    refine p_loop (n := 60) C rfl ?_
    refine p_weaken (st1 := I (j + 1)) id (ih (j + 1) h (by omega)) (.inl rfl) rfl ⟨?_, rfl, rfl, rfl, rfl, rfl, ?_, rfl, rfl, rfl, trivial⟩ ⟨⟨rfl, rfl, rfl⟩, Nat.le_of_ble_eq_true rfl, trivial⟩ rfl rfl rfl trivial
    · show some (i64 _) = some (i64 _)
      rw [wrapN (by omega)]
    · show some (i64 _) = some (i64 _)
      rw [roomV_succ s h]; rfl
  · simp only [decide_eq_false_iff_not, Int.ofNat_lt] at h
    have hj' : j = v.l.length := by omega
    subst hj'
    exact p_ret (n := 60) C Try.func48 rfl rfl rfl rfl () trivial (by rw [List.take_length]; rfl) rfl
theorem isNaN_ok (x : Int) : PureC Try.prog 72 [i64 x] Unit (fun _ => bo false) (fun _ => True) := by
  refine pureC_intro Try.func72 rfl rfl rfl (fun _ => rfl) (Nat.le_of_ble_eq_true rfl) fun XC w0 => ?_
  exact p_ret (n := 60) C Try.func72 rfl rfl rfl rfl () trivial (by simp [retV, bo]) rfl
def cmpV (x y : Int) : Int := if x < y then -1 else if x > y then 1 else 0
theorem cmp_ok (x y : Int) : PureC Try.prog 54 [i64 x, i64 y] Unit (fun _ => i64 (cmpV x y)) (fun _ => True) := by
  refine pureC_intro Try.func54 rfl rfl rfl (fun _ => rfl) (Nat.le_of_ble_eq_true rfl) fun XC w0 => ?_
  refine p_call (n := 60) C (isNaN_ok x) rfl rfl fun _ _ => ?_
  refine p_call (n := 60) C (isNaN_ok y) rfl rfl fun _ _ => ?_
  refine p_br (n := 60) C rfl (fun h => absurd h (by decide)) (fun _ => ?_)
  refine p_br (n := 60) C rfl (fun h => absurd h (by decide)) (fun _ => ?_)
  refine p_br (n := 60) C rfl (fun h => ?_) (fun h => ?_)
  · simp only [decide_eq_true_eq] at h
    exact p_ret (n := 60) C Try.func54 rfl rfl rfl rfl () trivial (by rw [cmpV, if_pos h]; rfl) rfl
  · simp only [decide_eq_false_iff_not] at h
    refine p_br (n := 60) C rfl (fun h2 => ?_) (fun h2 => ?_)
    · simp only [decide_eq_true_eq] at h2
      exact p_ret (n := 60) C Try.func54 rfl rfl rfl rfl () trivial (by rw [cmpV, if_neg h, if_pos h2]; rfl) rfl
    · simp only [decide_eq_false_iff_not] at h2
      exact p_ret (n := 60) C Try.func54 rfl rfl rfl rfl () trivial (by rw [cmpV, if_neg h, if_neg h2]; rfl) rfl
def ShapeD.chk (s : ShapeD) : Int := checkV s.g s.c s.mn s.mx
def unitsOk (s : ShapeD) (n : Int) : Prop := s.chk = 0 ∧ 0 ≤ n ∧ n ≤ 16
instance (s : ShapeD) (n : Int) : Decidable (unitsOk s n) := by unfold unitsOk; infer_instance
def unitsV (s : ShapeD) (n : Int) : UnitsD := if unitsOk s n then ⟨IntKind.i64.wrap (s.g * n), IntKind.i64.wrap (s.c * n)⟩ else ⟨0, 0⟩
theorem units_ok (s : ShapeD) (n : Int) : PureC Try.prog 67 [.a s.cs, i64 n] Unit (fun _ => .t [.a (unitsV s n).cs, i64 (if unitsOk s n then 0 else 1)]) (fun _ => True) := by
  refine pureC_intro Try.func67 rfl rfl rfl (fun _ => rfl) (Nat.le_of_ble_eq_true rfl) fun XC w0 => ?_
  have no : ¬ unitsOk s n → retV [.a [i64 0, i64 0], i64 1] = .t [.a (unitsV s n).cs, i64 (if unitsOk s n then 0 else 1)] := fun h => by rw [unitsV, if_neg h, if_neg h]; rfl
  refine p_call (n := 60) C (check_ok s.g s.c s.mn s.mx) rfl rfl fun _ _ => ?_
  refine p_br (n := 60) C rfl (fun h1 => ?_) (fun h1 => ?_)
  · simp only [bne_iff_ne, ne_eq] at h1
    refine p_br (n := 60) C rfl (fun _ => ?_) (fun h => absurd h (by decide))
    refine p_br (n := 60) C rfl (fun _ => ?_) (fun h => absurd h (by decide))
    exact p_ret (n := 60) C Try.func67 rfl rfl rfl rfl () trivial (no fun h => h1 h.1) rfl
  · simp only [bne_eq_false_iff_eq] at h1
    refine p_br (n := 60) C rfl (fun h2 => ?_) (fun h2 => ?_)
    · simp only [cond_false, decide_eq_true_eq] at h2
      refine p_br (n := 60) C rfl (fun _ => ?_) (fun h => absurd h (by decide))
      exact p_ret (n := 60) C Try.func67 rfl rfl rfl rfl () trivial (no fun h => by have := h.2.1; omega) rfl
    · simp only [cond_false, decide_eq_false_iff_not] at h2
      refine p_br (n := 60) C rfl (fun h3 => ?_) (fun h3 => ?_)
      · simp only [cond_false, decide_eq_true_eq] at h3
        exact p_ret (n := 60) C Try.func67 rfl rfl rfl rfl () trivial (no fun h => by have := h.2.2; omega) rfl
      · simp only [cond_false, decide_eq_false_iff_not] at h3
        have hy : unitsOk s n := ⟨h1, by omega, by omega⟩
        exact p_ret (n := 60) C Try.func67 rfl rfl rfl rfl () trivial (by rw [unitsV, if_pos hy, if_pos hy]; rfl) rfl
def withinV (s : ShapeD) (n : Int) (u : UnitsD) : Bool := decide ((unitsV s n).g ≤ u.g) && decide ((unitsV s n).c ≤ u.c)
theorem within_ok (s : ShapeD) (n : Int) (u : UnitsD) : PureC Try.prog 49 [.a s.cs, i64 n, .a u.cs] Unit (fun _ => bo (withinV s n u)) (fun _ => True) := by
  refine pureC_intro Try.func49 rfl rfl rfl (fun _ => rfl) (Nat.le_of_ble_eq_true rfl) fun XC w0 => ?_
  refine p_call (n := 60) C (units_ok s n) rfl rfl fun _ _ => ?_
  refine p_br (n := 60) C rfl (fun h1 => ?_) (fun h1 => ?_)
  · exact p_ret (n := 60) C Try.func49 rfl rfl rfl rfl () trivial (by simp only [withinV]; rw [h1]; rfl) rfl
  · exact p_ret (n := 60) C Try.func49 rfl rfl rfl rfl () trivial (by simp only [withinV]; rw [h1]; rfl) rfl
def canV (v : List FreeD) (s : ShapeD) (n : Int) (u : UnitsD) : Int := if roomV s v < n then 7 else if withinV s n u then 0 else 6
theorem can_ok (L : LookD) (s : ShapeD) (n : Int) (u : UnitsD) (hl : L.view.l.length < 4294967296) : PureC Try.prog 28 [.a L.cs, .a s.cs, i64 n, .a u.cs] Unit (fun _ => i64 (canV L.view.l s n u)) (fun _ => True) := by
  refine pureC_intro Try.func28 rfl rfl rfl (fun _ => rfl) (Nat.le_of_ble_eq_true rfl) fun XC w0 => ?_
  refine p_call (n := 60) C (room_ok L.view s hl) rfl rfl fun _ _ => ?_
  refine p_br (n := 60) C rfl (fun h1 => ?_) (fun h1 => ?_)
  · simp only [decide_eq_true_eq] at h1
    exact p_ret (n := 60) C Try.func28 rfl rfl rfl rfl () trivial (by rw [canV, if_pos h1]; rfl) rfl
  · simp only [decide_eq_false_iff_not] at h1
    refine p_call (n := 60) C (within_ok s n u) rfl rfl fun _ _ => ?_
    refine p_br (n := 60) C rfl (fun h2 => ?_) (fun h2 => ?_)
    · simp only [Bool.not_eq_true'] at h2
      exact p_ret (n := 60) C Try.func28 rfl rfl rfl rfl () trivial (by rw [canV, if_neg h1, h2]; rfl) rfl
    · simp only [Bool.not_eq_false'] at h2
      exact p_ret (n := 60) C Try.func28 rfl rfl rfl rfl () trivial (by rw [canV, if_neg h1, h2]; rfl) rfl
def leftE (L : LookD) (j : JobD) : Int := if j.sh.chk ≠ 0 then j.sh.chk else if j.queue < 0 ∨ j.queue ≥ L.left.l.length then 3 else 0
def leftU (L : LookD) (j : JobD) : UnitsD := if leftE L j = 0 then L.left.l.getD j.queue.toNat default else ⟨0, 0⟩
theorem left_ok (L : LookD) (j : JobD) : PureC Try.prog 27 [.a L.cs, .a j.cs] Unit (fun _ => .t [.a (leftU L j).cs, i64 (leftE L j)]) (fun _ => True) := by
  refine pureC_intro Try.func27 rfl rfl rfl (fun _ => rfl) (Nat.le_of_ble_eq_true rfl) fun XC w0 => ?_
  refine p_call (n := 60) C (check_ok j.sh.g j.sh.c j.sh.mn j.sh.mx) rfl rfl fun _ _ => ?_
  have no : ∀ e, leftE L j = e → e ≠ 0 → retV [.a [i64 0, i64 0], i64 e] = .t [.a (leftU L j).cs, i64 (leftE L j)] := fun e h h0 => by rw [leftU, h, if_neg h0]; rfl
  refine p_br (n := 60) C rfl (fun h1 => ?_) (fun h1 => ?_)
  · simp only [bne_iff_ne, ne_eq] at h1
    exact p_ret (n := 60) C Try.func27 rfl rfl rfl rfl () trivial (no _ (by rw [leftE, if_pos (show j.sh.chk ≠ 0 from h1)]; rfl) h1) rfl
  · simp only [bne_eq_false_iff_eq] at h1
    have h1' : ¬ (j.sh.chk ≠ 0) := fun h => h h1
    refine p_br (n := 60) C rfl (fun h2 => ?_) (fun h2 => ?_)
    · simp only [decide_eq_true_eq] at h2
      refine p_br (n := 60) C rfl (fun _ => ?_) (fun h => absurd h (by decide))
      exact p_ret (n := 60) C Try.func27 rfl rfl rfl rfl () trivial (no 3 (by rw [leftE, if_neg h1', if_pos (.inl h2)]) (by decide)) rfl
    · simp only [decide_eq_false_iff_not] at h2
      refine p_br (n := 60) C rfl (fun h3 => ?_) (fun h3 => ?_)
      · simp only [cond_false, decide_eq_true_eq] at h3
        exact p_ret (n := 60) C Try.func27 rfl rfl rfl rfl () trivial (no 3 (by rw [leftE, if_neg h1', if_pos (.inr h3)]) (by decide)) rfl
      · simp only [cond_false, decide_eq_false_iff_not] at h3
        refine p_need (n := 60) C rfl (by omega) ?_
        have h0 : leftE L j = 0 := by rw [leftE, if_neg h1', if_neg (by omega)]
        exact p_ret (n := 60) C Try.func27 rfl rfl rfl rfl () trivial (by rw [leftU, if_pos h0, h0]; rfl) rfl
end Go.Proofs.Ytneddobmlcbabaa
namespace Go.Proofs.Ytneddobmlcbabaa
open Go.SE
open Go.RowKit
set_option maxRecDepth 100000
set_option maxHeartbeats 4000000

theorem and127 (x : Int) : 0 ≤ bw .and .i64 x 127 ∧ bw .and .i64 x 127 ≤ 127 := by
  have h : (BitVec.ofInt 64 x &&& BitVec.ofInt 64 127).toNat ≤ 127 := by
    rw [BitVec.toNat_and]
    exact Nat.and_le_right
  have e : bw .and .i64 x 127 = IntKind.i64.wrap ((BitVec.ofInt 64 x &&& BitVec.ofInt 64 127).toNat : Int) := rfl
  rw [e]
  generalize (BitVec.ofInt 64 x &&& BitVec.ofInt 64 127).toNat = y at h
  simp [IntKind.bits, IntKind.wrap, IntKind.signed]
  omega
theorem cntE_bd (x : Int) : 0 ≤ cntE x ∧ cntE x ≤ 127 := and127 _
theorem wrapP {j : Nat} (h : j < 9223372036854775807) : IntKind.i64.wrap (((j + 1 : Nat) : Int) - 1) = (j : Int) := by
  simp [IntKind.wrap, IntKind.bits, IntKind.signed]; omega
def lowBit (m : Int) : Int := bw .and .u64 m (IntKind.u64.wrap (0 - m))
def dropBit (m : Int) : Int := bw .and .u64 m (IntKind.u64.wrap (m - 1))
def or64 (x y : Int) : Int := bw .or .u64 x y
/-- the k lowest bits, put to out -/
def lowN : Nat → Int → Int → Int
  | 0, _, out => out
  | k + 1, m, out => if m = 0 then out else lowN k (dropBit m) (or64 out (lowBit m))
theorem lowN_zero (k : Nat) (out : Int) : lowN k 0 out = out := by cases k <;> simp [lowN]
def lowE (m n : Int) : Int := if n < 0 then 1 else if n > cntE m then 2 else 0
def lowV (m n : Int) : Int := if lowE m n = 0 then lowN n.toNat m 0 else 0
theorem lowest_ok (m n : Int) : PureC Try.prog 76 [u64 m, i64 n] Unit (fun _ => .t [u64 (lowV m n), i64 (lowE m n)]) (fun _ => True) := by
  refine pureC_intro Try.func76 rfl rfl rfl (fun _ => rfl) (Nat.le_of_ble_eq_true rfl) fun XC w0 => ?_
  have no : ∀ e, lowE m n = e → e ≠ 0 → retV [u64 0, i64 e] = .t [u64 (lowV m n), i64 (lowE m n)] := fun e h h0 => by rw [lowV, h, if_neg h0]; rfl
  refine p_br (n := 60) C rfl (fun h1 => ?_) (fun h1 => ?_)
  · simp only [decide_eq_true_eq] at h1
    exact p_ret (n := 60) C Try.func76 rfl rfl rfl rfl () trivial (no 1 (by rw [lowE, if_pos h1]) (by decide)) rfl
  · simp only [decide_eq_false_iff_not] at h1
    refine p_at (n := 60) C rfl ?_
    refine p_draw C [] (.t 0 <| .t 1 <| .o 2 <| .t 3 <| .t 4 .d) (by kernel_rfl) (by kernel_rfl) ?_
    refine d_call C (count_ok m) rfl fun _ _ => ?_
    refine d_fin C rfl ?_
    refine p_br (n := 60) C rfl (fun h2 => ?_) (fun h2 => ?_)
    · simp only [decide_eq_true_eq] at h2
      exact p_ret (n := 60) C Try.func76 rfl rfl rfl rfl () trivial (no 2 (by rw [lowE, if_neg h1, if_pos h2]) (by decide)) rfl
    · simp only [decide_eq_false_iff_not] at h2
      have hE : lowE m n = 0 := by rw [lowE, if_neg h1, if_neg h2]
      have hb := cntE_bd m
      obtain ⟨N, rfl⟩ : ∃ N : Nat, n = (N : Int) := ⟨n.toNat, by omega⟩
      refine p_at (n := 11) C rfl ?_
      refine p_inline C Try.func101 rfl rfl rfl rfl (Nat.le_of_ble_eq_true rfl) fun ao hao => ?_
      refine p_pop (n := 60) C Try.func101 rfl rfl rfl rfl rfl rfl rfl rfl hao rfl ?_
      refine p_at (n := 60) C rfl ?_
      refine p_range C rfl rfl Try.func106 rfl rfl (Nat.le_of_ble_eq_true rfl) fun ai l r hL hrs hrp => ?_
      refine p_loop (n := 60) C rfl ?_
      let I : Nat × Int × Int × Loop → St := fun x => ⟨[(1, .p 2 0), (0, .y 4)], [(4, .lp l x.2.2.2), (3, .mark), (2, .cells [u64 x.2.1] 47), (1, .cells [u64 x.2.2.1] 47), (0, .cells [i64 (x.1 : Int)] 3)], 16, 5, [], [⟨ai, [(3, .p 0 0), (6, .p 1 0)], 27, [3]⟩]⟩
      refine p_weaken (st1 := I (N, m, 0, r)) id (p_inv I (fun x => lowN x.1 x.2.1 x.2.2.1 = lowN N m 0 ∧ x.1 ≤ N ∧ LoopIs x.2.2.2 76 ai.tmps _ _ _ ∧ x.2.2.2.state = .ready ∧ x.2.2.2.pending = none) (fun x => x.1) (fun x hx ih => ?_) (N, m, 0, r) ⟨rfl, Nat.le_refl _, hL, hrs, hrp⟩) (.inl rfl) rfl ⟨rfl, rfl, rfl, rfl, trivial⟩
        ⟨⟨rfl, rfl⟩, Nat.le_of_ble_eq_true rfl, trivial, Nat.le_of_ble_eq_true rfl, ⟨rfl, rfl, rfl⟩, Nat.le_of_ble_eq_true rfl, ⟨rfl, rfl, rfl⟩, Nat.le_of_ble_eq_true rfl, ⟨rfl, rfl, rfl⟩, Nat.le_of_ble_eq_true rfl, trivial⟩ rfl rfl rfl ⟨⟨rfl, rfl, rfl, rfl, rfl, rfl, rfl, rfl, trivial⟩, trivial⟩
      obtain ⟨k, mm, out, r⟩ := x
      obtain ⟨hx1, hx2, hL, hrs, hrp⟩ := hx
      refine p_br (n := 60) C rfl (fun h3 => ?_) (fun h3 => ?_)
      · refine p_at (n := 60) C rfl ?_
        refine p_yield C hL rfl rfl rfl rfl rfl fun bi hbi => ?_
        refine p_at (n := 60) C rfl ?_
        refine p_begin 4 rfl hrs fun r2 hr2s hr2p hL2 => ?_
        refine p_br (n := 60) C rfl (fun h4 => ?_) (fun h4 => ?_)
        · simp only [beq_iff_eq] at h4
          have hk0 : k = 0 := by omega
          subst hk0
          refine p_at (n := 60) C rfl ?_
          refine p_rend 4 rfl rfl rfl rfl hbi rfl fun r3 hr3s hr3p hL3 => ?_
          refine p_br (n := 60) C rfl (fun _ => ?_) (fun h => absurd h (by decide))
          refine p_popr (n := 60) C 4 Try.func106 rfl rfl rfl rfl rfl rfl rfl rfl (by rw [hr3s]; decide) hr3p ?_
          exact p_ret (n := 60) C Try.func76 rfl rfl rfl rfl () trivial (by rw [hE, lowV, hE, if_pos rfl, Int.toNat_natCast, ← hx1]; rfl) rfl
        · simp only [beq_eq_false_iff_ne, ne_eq] at h4
          obtain ⟨k, rfl⟩ : ∃ q, k = q + 1 := ⟨k - 1, by omega⟩
          refine p_at (n := 60) C rfl ?_
          refine p_rend 4 rfl rfl rfl rfl hbi rfl fun r3 hr3s hr3p hL3 => ?_
          refine p_br (n := 60) C rfl (fun h => absurd h (by decide)) (fun _ => ?_)
          refine p_loop (n := 60) C rfl ?_
          have h3' : mm ≠ 0 := by simpa using h3
          refine p_weaken (st1 := I (k, dropBit mm, or64 out (lowBit mm), r3)) id (ih (k, dropBit mm, or64 out (lowBit mm), r3) ⟨by rw [← hx1, lowN, if_neg h3'], by omega, hL3 (hL2 hL), hr3s, hr3p⟩ (Nat.lt_succ_self _)) (.inl rfl) rfl ⟨rfl, rfl, rfl, rfl, trivial⟩
            ⟨⟨rfl, rfl⟩, Nat.le_of_ble_eq_true rfl, trivial, Nat.le_of_ble_eq_true rfl, ⟨rfl, rfl, rfl⟩, Nat.le_of_ble_eq_true rfl, ⟨rfl, rfl, rfl⟩, Nat.le_of_ble_eq_true rfl, ⟨?_, rfl, rfl⟩, Nat.le_of_ble_eq_true rfl, trivial⟩ rfl rfl rfl ⟨⟨rfl, rfl, rfl, rfl, rfl, rfl, rfl, rfl, trivial⟩, trivial⟩
          show [i64 _] = [i64 _]
          rw [wrapP (by omega)]
      · have h3' : mm = 0 := by simpa using h3
        subst h3'
        refine p_popr (n := 60) C 4 Try.func106 rfl rfl rfl rfl rfl rfl rfl rfl (by show r.state ≠ _; rw [hrs]; decide) hrp ?_
        exact p_ret (n := 60) C Try.func76 rfl rfl rfl rfl () trivial (by rw [hE, lowV, hE, if_pos rfl, Int.toNat_natCast, ← hx1, lowN_zero]; rfl) rfl
end Go.Proofs.Ytneddobmlcbabaa
namespace Go.Proofs.Ytneddobmlcbabaa
open Go.SE
open Go.RowKit
set_option maxRecDepth 100000
set_option maxHeartbeats 4000000

def pieceE (s : ShapeD) (f : FreeD) : Int := if s.chk ≠ 0 then s.chk else if fitsF s f = 0 then 7 else 0
def pieceM (s : ShapeD) (f : FreeD) : Int := lowV f.m s.g
def pieceS (s : ShapeD) (f : FreeD) : FreeD := if pieceE s f = 0 then ⟨f.nd, f.dm, pieceM s f, s.c⟩ else ⟨0, 0, 0, 0⟩
def pieceL (s : ShapeD) (f : FreeD) : FreeD := if pieceE s f = 0 then ⟨f.nd, f.dm, bw .andNot .u64 f.m (pieceM s f), IntKind.i64.wrap (f.c - s.c)⟩ else ⟨0, 0, 0, 0⟩
theorem piece_ok (s : ShapeD) (f : FreeD) : PureC Try.prog 56 [.a s.cs, .a f.cs] Unit (fun _ => .t [.a (pieceS s f).cs, .a (pieceL s f).cs, i64 (pieceE s f)]) (fun _ => True) := by
  refine pureC_intro Try.func56 rfl rfl rfl (fun _ => rfl) (Nat.le_of_ble_eq_true rfl) fun XC w0 => ?_
  have no : ∀ e, pieceE s f = e → e ≠ 0 → retV [.a [i64 0, i64 0, u64 0, i64 0], .a [i64 0, i64 0, u64 0, i64 0], i64 e] = .t [.a (pieceS s f).cs, .a (pieceL s f).cs, i64 (pieceE s f)] := fun e h h0 => by rw [pieceS, pieceL, h, if_neg h0, if_neg h0]; rfl
  refine p_call (n := 60) C (check_ok s.g s.c s.mn s.mx) rfl rfl fun _ _ => ?_
  refine p_br (n := 60) C rfl (fun h1 => ?_) (fun h1 => ?_)
  · simp only [bne_iff_ne, ne_eq] at h1
    exact p_ret (n := 60) C Try.func56 rfl rfl rfl rfl () trivial (no _ (by rw [pieceE, if_pos (show s.chk ≠ 0 from h1)]; rfl) h1) rfl
  · simp only [bne_eq_false_iff_eq] at h1
    have h1' : ¬ (s.chk ≠ 0) := fun h => h h1
    refine p_call (n := 60) C (fits_ok s.g s.c s.mn s.mx f.nd f.dm f.m f.c) rfl rfl fun _ _ => ?_
    refine p_br (n := 60) C rfl (fun h2 => ?_) (fun h2 => ?_)
    · simp only [beq_iff_eq] at h2
      exact p_ret (n := 60) C Try.func56 rfl rfl rfl rfl () trivial (no 7 (by rw [pieceE, if_neg h1', if_pos (show fitsF s f = 0 from h2)]) (by decide)) rfl
    · simp only [beq_eq_false_iff_ne, ne_eq] at h2
      refine p_call (n := 60) C (lowest_ok f.m s.g) rfl rfl fun _ _ => ?_
      refine p_at (n := 60) C rfl ?_
      refine p_draw C [2, 3] (.t 0 <| .t 1 <| .t 2 <| .t 3 <| .t 4 <| .t 5 <| .t 6 <| .t 7 <| .t 8 <| .t 9 <| .t 10 <| .t 11 <| .t 12 <| .t 13 <| .t 14 <| .t 15 <| .t 16 <| .t 17 <| .o 18 <| .o 19 <| .t 20 .d) (by kernel_rfl) (by kernel_rfl) ?_
      refine d_fin C rfl ?_
      have h0 : pieceE s f = 0 := by rw [pieceE, if_neg h1', if_neg (show ¬ fitsF s f = 0 from h2)]
      exact p_ret (n := 60) C Try.func56 rfl rfl rfl rfl () trivial (by rw [pieceS, pieceL, if_pos h0, if_pos h0, h0]; rfl) rfl
end Go.Proofs.Ytneddobmlcbabaa
namespace Go.Proofs.Ytneddobmlcbabaa
open Go.SE
open Go.RowKit
set_option maxRecDepth 100000
set_option maxHeartbeats 4000000

theorem FreeD.sh (f : FreeD) : f.cs.length = 4 ∧ ∀ u ∈ f.cs, one u = true ∧ pure u = true := ⟨rfl, by simp [FreeD.cs, i64, u64, one, SE.pure, Value.oneCell']⟩
theorem HoldD.sh (f : HoldD) : f.cs.length = 5 ∧ ∀ u ∈ f.cs, one u = true ∧ pure u = true := ⟨rfl, by simp [HoldD.cs, i64, bo, one, SE.pure, Value.oneCell', Sl.sv]⟩
theorem cloneF_ok (v : Sl FreeD) (hl : v.l.length < 4294967296) : OwnC Try.prog 51 [v.sv 4 FreeD.cs] 73 4 v.l.length (fun j => (v.l.getD j default).cs) := by
  refine ownC_intro Try.func51 rfl rfl rfl (Nat.le_of_ble_eq_true rfl) (by decide) (fun j _ => FreeD.sh _) (fun X w h j hj u hu => ?_) fun XC w0 => ?_
  · have := h (v.sv 4 FreeD.cs) (by simp)
    cases this with | s _ _ _ _ ho => exact ho j hj u hu
  · refine p_fact (t := 0) rfl fun h1 h2 h3 => ?_
    refine p_br (n := 60) C rfl (fun h => ?_) (fun h => ?_)
    · have h0 : v.l.length = 0 := by
        rcases Nat.eq_zero_or_pos v.l.length with h' | h'
        · exact h'
        · have := h3 h'; simp [Option.isNone_iff_eq_none] at h; simp [h] at this
      rw [show RO 73 4 v.l.length (fun j => (v.l.getD j default).cs) w0 = RO 73 4 0 (fun j => (v.l.getD j default).cs) w0 by rw [h0]]
      refine p_at (n := 60) C rfl ?_
      refine p_nilT 2 (e := 73) (k := 4) (by decide) (Nat.le_of_ble_eq_true rfl) rfl ?_
      exact p_retO (n := 10) C Try.func51 rfl rfl rfl rfl rfl fun j hj => by omega
    · refine p_need (n := 60) C rfl ⟨by simp only [maxLen]; omega, ?_⟩ ?_
      · show (0 + v.l.length) * 32 ≤ _
        omega
      rw [show RO 73 4 v.l.length (fun j => (v.l.getD j default).cs) w0 = RO 73 4 (0 + v.l.length) (fun j => (v.l.getD j default).cs) w0 by rw [Nat.zero_add]]
      exact p_retO (n := 60) C Try.func51 rfl rfl rfl rfl rfl fun j hj => by simp [appEl]
theorem cloneH_ok (v : Sl HoldD) (hl : v.l.length < 4294967296) : OwnC Try.prog 60 [v.sv 5 HoldD.cs] 44 5 v.l.length (fun j => (v.l.getD j default).cs) := by
  refine ownC_intro Try.func60 rfl rfl rfl (Nat.le_of_ble_eq_true rfl) (by decide) (fun j _ => HoldD.sh _) (fun X w h j hj u hu => ?_) fun XC w0 => ?_
  · have := h (v.sv 5 HoldD.cs) (by simp)
    cases this with | s _ _ _ _ ho => exact ho j hj u hu
  · refine p_fact (t := 0) rfl fun h1 h2 h3 => ?_
    refine p_br (n := 60) C rfl (fun h => ?_) (fun h => ?_)
    · have h0 : v.l.length = 0 := by
        rcases Nat.eq_zero_or_pos v.l.length with h' | h'
        · exact h'
        · have := h3 h'; simp [Option.isNone_iff_eq_none] at h; simp [h] at this
      rw [show RO 44 5 v.l.length (fun j => (v.l.getD j default).cs) w0 = RO 44 5 0 (fun j => (v.l.getD j default).cs) w0 by rw [h0]]
      refine p_at (n := 60) C rfl ?_
      refine p_nilT 2 (e := 44) (k := 5) (by decide) (Nat.le_of_ble_eq_true rfl) rfl ?_
      exact p_retO (n := 10) C Try.func60 rfl rfl rfl rfl rfl fun j hj => by omega
    · refine p_need (n := 60) C rfl ⟨by simp only [maxLen]; omega, ?_⟩ ?_
      · show (0 + v.l.length) * 56 ≤ _
        omega
      rw [show RO 44 5 v.l.length (fun j => (v.l.getD j default).cs) w0 = RO 44 5 (0 + v.l.length) (fun j => (v.l.getD j default).cs) w0 by rw [Nat.zero_add]]
      exact p_retO (n := 60) C Try.func60 rfl rfl rfl rfl rfl fun j hj => by simp [appEl]
end Go.Proofs.Ytneddobmlcbabaa
namespace Go.Proofs.Ytneddobmlcbabaa
open Go.SE
open Go.RowKit
set_option maxRecDepth 100000
set_option maxHeartbeats 4000000

theorem appEl_snoc {α : Type} (enc : α → List SV) (l : List α) (d x : α) {el' : Nat → List SV} (he : el' 0 = enc x) {j : Nat} (hj : j < l.length + 1) :
    appEl l.length (fun j => enc (l.getD j d)) el' j = enc ((l ++ [x]).getD j d) := by
  simp only [appEl]
  by_cases h : j < l.length
  · rw [if_pos h]
    congr 1
    simp [List.getD_eq_getElem?_getD, List.getElem?_append_left h]
  · rw [if_neg h]
    have : j = l.length := by omega
    subst this
    rw [Nat.sub_self, he]
    congr 1
    simp [List.getD_eq_getElem?_getD]
def half (x : Int) : Int := IntKind.u64.wrap (x.tdiv 2)
def halves : Nat → Int → Int
  | 0, m => m
  | k + 1, m => half (halves k m)
def hasV (m : Int) (n : Nat) : Bool := (halves n m).tmod 2 == 1
theorem has_ok (m : Int) (n : Nat) (hn : n < 64) : PureC Try.prog 65 [u64 m, i64 (n : Int)] Unit (fun _ => bo (hasV m n)) (fun _ => True) := by
  refine pureC_intro Try.func65 rfl rfl rfl (fun _ => rfl) (Nat.le_of_ble_eq_true rfl) fun XC w0 => ?_
  refine p_loop (n := 60) C rfl ?_
  let I : Nat → St := fun j => ⟨[(5, i64 (j : Int)), (0, u64 (halves j m)), (1, i64 (n : Int))], [], 24, 0, [], []⟩
  refine p_weaken (st1 := I 0) id (p_inv I (fun j => j ≤ n) (fun j => n - j) (fun j hj ih => ?_) 0 (Nat.zero_le _)) (.inl rfl) rfl ⟨rfl, rfl, rfl, rfl, rfl, rfl, trivial⟩ trivial rfl rfl rfl trivial
  refine p_br (n := 60) C rfl (fun h => ?_) (fun h => ?_)
  · simp only [decide_eq_true_eq, Int.ofNat_lt] at h
    refine p_need (n := 60) C rfl (by decide) ?_
    refine p_loop (n := 60) C rfl ?_
    refine p_weaken (st1 := I (j + 1)) id (ih (j + 1) h (by omega)) (.inl rfl) rfl ⟨?_, rfl, rfl, rfl, rfl, rfl, trivial⟩ trivial rfl rfl rfl trivial
    show some (i64 _) = some (i64 _)
    rw [wrapN (by omega)]
  · simp only [decide_eq_false_iff_not, Int.ofNat_lt] at h
    have hj' : j = n := by omega
    subst hj'
    refine p_br (n := 60) C rfl (fun _ => ?_) (fun h => absurd h (by simp only [decide_eq_false_iff_not]; omega))
    refine p_br (n := 60) C rfl (fun h2 => ?_) (fun h2 => absurd h2 (by simp only [cond_true, decide_eq_false_iff_not]; omega))
    refine p_need (n := 60) C rfl (by decide) ?_
    exact p_ret (n := 60) C Try.func65 rfl rfl rfl rfl () trivial rfl rfl
/-- the units of a mask below j -/
def unitsTo (m : Int) : Nat → List Int
  | 0 => []
  | j + 1 => if hasV m j then unitsTo m j ++ [(j : Int)] else unitsTo m j
theorem unitsTo_len (m : Int) (j : Nat) : (unitsTo m j).length ≤ j := by
  induction j with
  | zero => simp [unitsTo]
  | succ j ih =>
    simp only [unitsTo]
    split
    · rw [List.length_append]; simp only [List.length_singleton]; omega
    · omega
def intC (x : Int) : List SV := [i64 x]
theorem unitsR_ok (m : Int) : PureC Try.prog 41 [u64 m] (Option Addr × Nat) (fun y => Sl.sv 1 intC ⟨y.1, y.2, unitsTo m 64⟩) (fun _ => True) := by
  refine pureC_intro Try.func41 rfl rfl rfl (fun _ => rfl) (Nat.le_of_ble_eq_true rfl) fun XC w0 => ?_
  refine p_loop (n := 60) C rfl ?_
  refine p_nilT 3 (e := 3) (k := 1) (by decide) (Nat.le_of_ble_eq_true rfl) rfl ?_
  let I : Nat → St := fun j => ⟨[(4, i64 (j : Int)), (3, .own 0), (0, u64 m)], [(0, .row 3 1 (unitsTo m j).length fun i => intC ((unitsTo m j).getD i default))], 17, 1, [], []⟩
  refine p_weaken (st1 := I 0) id (p_inv I (fun j => j ≤ 64) (fun j => 64 - j) (fun j hj ih => ?_) 0 (by decide)) (.inl rfl) rfl ⟨rfl, rfl, rfl, rfl, rfl, rfl, trivial⟩ ⟨⟨rfl, rfl, rfl, fun j hj => absurd hj (Nat.not_lt_zero _)⟩, Nat.le_of_ble_eq_true rfl, trivial⟩ rfl rfl rfl trivial
  refine p_br (n := 60) C rfl (fun h => ?_) (fun h => ?_)
  · simp only [decide_eq_true_eq] at h
    have h' : j < 64 := by omega
    refine p_call (n := 60) C (has_ok m j h') rfl rfl fun _ _ => ?_
    refine p_br (n := 60) C rfl (fun h2 => ?_) (fun h2 => ?_)
    · have hU : unitsTo m (j + 1) = unitsTo m j ++ [(j : Int)] := by simp only [unitsTo]; rw [if_pos h2]
      have hlen := unitsTo_len m j
      refine p_need (n := 60) C rfl ⟨by simp only [maxLen]; omega, ?_⟩ ?_
      · show ((unitsTo m j).length + 1) * 8 ≤ _
        omega
      refine p_loop (n := 60) C rfl ?_
      refine p_weaken (st1 := I (j + 1)) (fun i => if i = 0 then 2 else i) (ih (j + 1) h' (by omega)) (.inl rfl) rfl ⟨?_, rfl, rfl, rfl, rfl, rfl, trivial⟩
        ⟨⟨rfl, rfl, ?_, fun i hi => ?_⟩, Nat.le_of_ble_eq_true rfl, trivial⟩ rfl rfl rfl trivial
      · show some (i64 _) = some (i64 _)
        rw [wrapN (by omega)]
      · show (unitsTo m j).length + 1 = (unitsTo m (j + 1)).length
        rw [hU]; simp
      · show appEl (unitsTo m j).length (fun i => intC ((unitsTo m j).getD i default)) _ i = intC ((unitsTo m (j + 1)).getD i default)
        rw [hU] at hi ⊢
        exact appEl_snoc intC (unitsTo m j) default (j : Int) rfl (by simpa using hi)
    · have hU : unitsTo m (j + 1) = unitsTo m j := by simp only [unitsTo]; rw [if_neg (by simp [h2])]
      refine p_loop (n := 60) C rfl ?_
      refine p_weaken (st1 := I (j + 1)) id (ih (j + 1) h' (by omega)) (.inl rfl) rfl ⟨?_, rfl, rfl, rfl, rfl, rfl, trivial⟩
        ⟨⟨rfl, rfl, ?_, fun i hi => ?_⟩, Nat.le_of_ble_eq_true rfl, trivial⟩ rfl rfl rfl trivial
      · show some (i64 _) = some (i64 _)
        rw [wrapN (by omega)]
      · show (unitsTo m j).length = (unitsTo m (j + 1)).length
        rw [hU]
      · show intC ((unitsTo m j).getD i default) = intC ((unitsTo m (j + 1)).getD i default)
        rw [hU]
  · simp only [decide_eq_false_iff_not] at h
    have hj' : j = 64 := by omega
    subst hj'
    refine p_at (n := 60) C rfl ?_
    refine p_frz 0 rfl fun A c => ?_
    exact p_ret (n := 10) C Try.func41 rfl rfl rfl rfl (A, c) trivial rfl rfl
end Go.Proofs.Ytneddobmlcbabaa
namespace Go.Proofs.Ytneddobmlcbabaa
open Go.SE
open Go.RowKit
set_option maxRecDepth 100000
set_option maxHeartbeats 4000000

def spotIs (nd dm : Int) (f : FreeD) : Bool := f.nd == nd && (f.dm == dm)
def findV (l : List FreeD) (nd dm : Int) : Int := match l.findIdx? (spotIs nd dm) with
  | some i => i
  | none => -1
theorem findV_at {l : List FreeD} {nd dm : Int} {j : Nat} (hj : j < l.length) (h0 : ∀ i, i < j → spotIs nd dm (l.getD i default) = false) (h1 : spotIs nd dm (l.getD j default) = true) : findV l nd dm = j := by
  have : l.findIdx? (spotIs nd dm) = some j := by
    rw [List.findIdx?_eq_some_iff_getElem]
    refine ⟨hj, by simpa [hj] using h1, fun i hi => ?_⟩
    have := h0 i hi
    simp [List.getD_eq_getElem?_getD, show i < l.length by omega] at this
    simp [this]
  rw [findV, this]
theorem findV_no {l : List FreeD} {nd dm : Int} (h0 : ∀ i, i < l.length → spotIs nd dm (l.getD i default) = false) : findV l nd dm = -1 := by
  have : l.findIdx? (spotIs nd dm) = none := by
    rw [List.findIdx?_eq_none_iff]
    intro x hx
    obtain ⟨i, hi, rfl⟩ := List.getElem_of_mem hx
    have := h0 i hi
    simpa [List.getD_eq_getElem?_getD, hi] using this
  rw [findV, this]
theorem find_ok (A : Option Addr) (n c : Nat) (el : Nat → List SV) (l : List FreeD) (hn : n = l.length) (hel : ∀ j, j < n → el j = (l.getD j default).cs) (nd dm : Int) (hl : l.length < 4294967296) :
    PureC Try.prog 42 [.s A n c 4 el, .a [i64 nd, i64 dm]] Unit (fun _ => i64 (findV l nd dm)) (fun _ => True) := by
  subst hn
  refine pureC_intro Try.func42 rfl rfl rfl (fun _ => rfl) (Nat.le_of_ble_eq_true rfl) fun XC w0 => ?_
  refine p_reel 0 rfl hel ?_
  refine p_loop (n := 60) C rfl ?_
  let I : Nat → St := fun j => ⟨[(5, i64 (j : Int)), (3, .p 0 0), (0, .s A l.length c 4 fun j => (l.getD j default).cs)], [(0, .cells [i64 nd, i64 dm] 46)], 20, 1, [], []⟩
  refine p_weaken (st1 := I 0) id (p_inv I (fun j => j ≤ l.length ∧ ∀ i, i < j → spotIs nd dm (l.getD i default) = false) (fun j => l.length - j) (fun j hj ih => ?_) 0 ⟨Nat.zero_le _, fun i hi => absurd hi (Nat.not_lt_zero _)⟩) (.inl rfl) rfl ⟨rfl, rfl, rfl, rfl, rfl, rfl, trivial⟩ ⟨⟨rfl, rfl, rfl⟩, Nat.le_of_ble_eq_true rfl, trivial⟩ rfl rfl rfl trivial
  obtain ⟨hj, h0⟩ := hj
  refine p_br (n := 60) C rfl (fun h => ?_) (fun h => ?_)
  · simp only [decide_eq_true_eq, Int.ofNat_lt] at h
    refine p_at (n := 60) C rfl ?_
    refine p_draw C [] (.t 0 <| .t 1 <| .t 2 <| .t 3 <| .t 4 <| .t 5 <| .t 6 .d) (by kernel_rfl) (by kernel_rfl) ?_
    refine d_need C rfl ⟨by omega, by omega⟩ ?_
    refine d_fin C rfl ?_
    refine p_br (n := 60) C rfl (fun h2 => ?_) (fun h2 => ?_)
    · exact p_ret (n := 60) C Try.func42 rfl rfl rfl rfl () trivial (by rw [findV_at h h0 h2]; rfl) rfl
    · refine p_loop (n := 60) C rfl ?_
      refine p_weaken (st1 := I (j + 1)) id (ih (j + 1) ⟨h, fun i hi => ?_⟩ (by omega)) (.inl rfl) rfl ⟨?_, rfl, rfl, rfl, rfl, rfl, trivial⟩ ⟨⟨rfl, rfl, rfl⟩, Nat.le_of_ble_eq_true rfl, trivial⟩ rfl rfl rfl trivial
      · rcases Nat.lt_succ_iff_lt_or_eq.1 hi with h' | h'
        · exact h0 i h'
        · subst h'; exact h2
      · show some (i64 _) = some (i64 _)
        rw [wrapN (by omega)]
  · simp only [decide_eq_false_iff_not, Int.ofNat_lt] at h
    have hj' : j = l.length := by omega
    subst hj'
    exact p_ret (n := 60) C Try.func42 rfl rfl rfl rfl () trivial (by rw [findV_no h0]; rfl) rfl
end Go.Proofs.Ytneddobmlcbabaa
