/- A walk by symbols over the given program, a part of it: lemmas alone; what is claimed stands in the last text. No conditions of its own. -/
import Derived.Test.YtneddobmlcbabaaWaL
set_option linter.unusedVariables false
set_option linter.unusedSimpArgs false
namespace Go.Proofs.Ytneddobmlcbabaa
open Go.SE
open Go.RowKit
open Go.PS
set_option maxRecDepth 100000
set_option maxHeartbeats 4000000

def takeU (u : UnitsD) (s : FreeD) : UnitsD := ⟨IntKind.i64.wrap (u.g - cntE s.m), IntKind.i64.wrap (u.c - s.c)⟩
def giveU (q wq : Int) (u : UnitsD) (s : FreeD) : UnitsD := if q = wq then ⟨IntKind.i64.wrap (u.g + cntE s.m), IntKind.i64.wrap (u.c + s.c)⟩ else u
def uOb (u : UnitsD) : List (Nat × Ob) := [(0, .cells u.cs 41)]
theorem each1_ok (u : UnitsD) (s : FreeD) : MutC Try.prog 79 [.a s.cs, .p 0 0] (uOb u) 1 Unit (fun _ => .t []) (fun _ => uOb (takeU u s)) (fun _ => 1) (fun _ => True) := by
  refine mutC_intro Try.func79 rfl rfl (Nat.le_of_ble_eq_true rfl) fun XC X0 w0 Ei ga hgh => ?_
  refine p_at (n := 60) C rfl ?_
  refine p_draw C [0] (.t 0 <| .t 2 <| .t 3 <| .f 1 (.o 4 <| .t 5 <| .t 6 <| .o 7 .d) 4 (.o 1 <| .t 5 <| .t 6 <| .o 7 .d)) (by kernel_rfl) (by kernel_rfl) ?_
  refine d_fork C rfl (d1_ok C rfl (by kernel_rfl) rfl rfl (d_call C (count_ok s.m) rfl fun _ _ => d_fin C rfl ?_)) (d1_call C rfl (by kernel_rfl) rfl (count_ok s.m) rfl fun _ _ => d_fin C rfl ?_)
  all_goals
    refine p_at (n := 60) C rfl ?_
    refine p_weaken (st1 := ⟨[], uOb (takeU u s), 16, 1, [], [ghost ga 1]⟩) id ?_ (.inl rfl) rfl trivial ⟨⟨rfl, rfl, rfl⟩, Nat.le_of_ble_eq_true rfl, trivial⟩ rfl rfl rfl (sus_ghost (fun _ _ => rfl) (Nat.le_of_ble_eq_true rfl))
    exact p_retM (n := 60) C hgh Try.func79 rfl rfl rfl rfl rfl () trivial (Nat.le_refl _) rfl rfl rfl
theorem take_ok (u : UnitsD) (sl : Sl FreeD) (hl : sl.l.length < 4294967296) : PureC Try.prog 58 [.a u.cs, sl.sv 4 FreeD.cs] Unit (fun _ => .a (sl.l.foldl takeU u).cs) (fun _ => True) := by
  refine pureC_intro Try.func58 rfl rfl rfl (fun _ => rfl) (Nat.le_of_ble_eq_true rfl) fun XC w0 => ?_
  refine p_loop (n := 60) C rfl ?_
  let I : Nat → St := fun j => ⟨[(11, i64 (j : Int)), (10, i64 (sl.l.length : Int)), (9, sl.sv 4 FreeD.cs), (5, .f (.func 79) [.p 0 0]), (2, .p 0 0), (4, .p 1 0)], [(1, .cells [i64 0, i64 0] 41), (0, .cells ((sl.l.take j).foldl takeU u).cs 41)], 20, 2, [], []⟩
  refine p_weaken (st1 := I 0) id (p_inv I (fun j => j ≤ sl.l.length) (fun j => sl.l.length - j) (fun j hj ih => ?_) 0 (Nat.zero_le _)) (.inl rfl) rfl ⟨rfl, rfl, rfl, rfl, rfl, rfl, rfl, rfl, rfl, rfl, rfl, rfl, trivial⟩ ⟨⟨rfl, rfl, rfl⟩, Nat.le_of_ble_eq_true rfl, ⟨rfl, rfl, rfl⟩, Nat.le_of_ble_eq_true rfl, trivial⟩ rfl rfl rfl trivial
  refine p_br (n := 60) C rfl (fun hr => ?_) (fun hr => ?_)
  · have h : (j : Int) < (sl.l.length : Int) := of_decide_eq_true hr
    have h : j < sl.l.length := by omega
    refine p_need (n := 60) C rfl (show (0 : Int) ≤ (j : Int) ∧ (j : Int) < (sl.l.length : Int) by omega) ?_
    refine p_at (n := 60) C rfl ?_
    refine p_callM C id (each1_ok ((sl.l.take j).foldl takeU u) (sl.l.getD j default)) rfl rfl rfl rfl rfl rfl ⟨⟨rfl, rfl, rfl⟩, Nat.le_of_ble_eq_true rfl, trivial⟩ rfl fun _ _ => ?_
    refine p_loop (n := 60) C rfl ?_
    refine p_weaken (st1 := I (j + 1)) id (ih (j + 1) (by omega) (by omega)) (.inl rfl) rfl ⟨?_, rfl, rfl, rfl, rfl, rfl, rfl, rfl, rfl, rfl, rfl, rfl, trivial⟩ ⟨⟨rfl, rfl, rfl⟩, Nat.le_of_ble_eq_true rfl, ⟨by rw [foldl_take_succ _ _ _ _ h]; rfl, rfl, rfl⟩, Nat.le_of_ble_eq_true rfl, trivial⟩ rfl rfl rfl trivial
    show some (i64 _) = some (i64 _)
    rw [wrapN (by omega)]
  · have h : ¬ (j : Int) < (sl.l.length : Int) := of_decide_eq_false hr
    have h : j = sl.l.length := by omega
    subst h
    exact p_ret (n := 60) C Try.func58 rfl rfl rfl rfl () trivial (by rw [List.take_length]; rfl) rfl
def eOb (v : Sl FreeD) (w : WantD) (u : UnitsD) : List (Nat × Ob) := [(2, .cells u.cs 41), (1, .cells w.cs 53), (0, .cells [v.sv 4 FreeD.cs] 22)]
def endV (v : List FreeD) (h : HoldD) : List FreeD := ls (turnedV moreT v h.slots.l)
def endU (w : WantD) (u : UnitsD) (h : HoldD) : UnitsD := h.slots.l.foldl (giveU h.queue w.queue) u
theorem end1_ok (h : HoldD) (v : Sl FreeD) (w : WantD) (u : UnitsD) (hv : v.l.length < 4294967296) (hs : h.slots.l.length < 4294967296) : MutC Try.prog 85 [.a h.cs, .p 0 0, .p 1 0, .p 2 0] (eOb v w u) 3 (Option Addr × Nat) (fun _ => .t []) (fun y => eOb ⟨y.1, y.2, endV v.l h⟩ w (endU w u h)) (fun _ => 3) (fun _ => True) := by
  refine mutC_intro Try.func85 rfl rfl (Nat.le_of_ble_eq_true rfl) fun XC X0 w0 Ei ga hgh => ?_
  refine p_call (n := 60) C (PureC.uni (more_view_ok v h.slots hv hs)) rfl rfl fun y _ => ?_
  refine p_loop (n := 60) C rfl ?_
  let I : Nat → St := fun j => ⟨[(17, i64 (j : Int)), (16, i64 (h.slots.l.length : Int)), (15, h.slots.sv 4 FreeD.cs), (2, .p 1 0), (3, .p 2 0), (4, .p 3 0)], (3, .cells h.cs 44) :: eOb ⟨y.1, y.2, endV v.l h⟩ w ((h.slots.l.take j).foldl (giveU h.queue w.queue) u), 40, 4, [], [ghost ga 3]⟩
  refine p_weaken (st1 := I 0) id (p_inv I (fun j => j ≤ h.slots.l.length) (fun j => h.slots.l.length - j) (fun j hj ih => ?_) 0 (Nat.zero_le _)) (.inl rfl) rfl ⟨rfl, rfl, rfl, rfl, rfl, rfl, rfl, rfl, rfl, rfl, rfl, rfl, trivial⟩ ⟨⟨rfl, rfl, rfl⟩, Nat.le_of_ble_eq_true rfl, ⟨rfl, rfl, rfl⟩, Nat.le_of_ble_eq_true rfl, ⟨rfl, rfl, rfl⟩, Nat.le_of_ble_eq_true rfl, ⟨rfl, rfl, rfl⟩, Nat.le_of_ble_eq_true rfl, trivial⟩ rfl rfl rfl (sus_ghost (fun _ _ => rfl) (Nat.le_of_ble_eq_true rfl))
  refine p_br (n := 60) C rfl (fun hr => ?_) (fun hr => ?_)
  · have hlt : (j : Int) < (h.slots.l.length : Int) := of_decide_eq_true hr
    have hlt : j < h.slots.l.length := by omega
    refine p_need (n := 60) C rfl (show (0 : Int) ≤ (j : Int) ∧ (j : Int) < (h.slots.l.length : Int) by omega) ?_
    refine p_br (n := 60) C rfl (fun h1 => ?_) (fun h1 => ?_)
    · have h1 : h.queue = w.queue := by simpa using h1
      refine p_at (n := 60) C rfl ?_
      refine p_draw C [2] (.t 0 <| .t 2 <| .t 3 <| .f 1 (.o 4 <| .t 5 <| .t 6 <| .o 7 .d) 4 (.o 1 <| .t 5 <| .t 6 <| .o 7 .d)) (by kernel_rfl) (by kernel_rfl) ?_
      refine d_fork C rfl (d1_ok C rfl (by kernel_rfl) rfl rfl (d_call C (count_ok (h.slots.l.getD j default).m) rfl fun _ _ => d_fin C rfl ?_)) (d1_call C rfl (by kernel_rfl) rfl (count_ok (h.slots.l.getD j default).m) rfl fun _ _ => d_fin C rfl ?_)
      all_goals
        refine p_loop (n := 60) C rfl ?_
        refine p_weaken (st1 := I (j + 1)) id (ih (j + 1) (by omega) (by omega)) (.inl rfl) rfl ⟨?_, rfl, rfl, rfl, rfl, rfl, rfl, rfl, rfl, rfl, rfl, rfl, trivial⟩ ⟨⟨rfl, rfl, rfl⟩, Nat.le_of_ble_eq_true rfl, ⟨by rw [foldl_take_succ _ _ _ _ hlt, giveU, if_pos h1]; rfl, rfl, rfl⟩, Nat.le_of_ble_eq_true rfl, ⟨rfl, rfl, rfl⟩, Nat.le_of_ble_eq_true rfl, ⟨rfl, rfl, rfl⟩, Nat.le_of_ble_eq_true rfl, trivial⟩ rfl rfl rfl (sus_ghost (fun _ _ => rfl) (Nat.le_of_ble_eq_true rfl))
        show some (i64 _) = some (i64 _)
        rw [wrapN (by omega)]
    · have h1 : ¬ h.queue = w.queue := by simpa using h1
      refine p_loop (n := 60) C rfl ?_
      refine p_weaken (st1 := I (j + 1)) id (ih (j + 1) (by omega) (by omega)) (.inl rfl) rfl ⟨?_, rfl, rfl, rfl, rfl, rfl, rfl, rfl, rfl, rfl, rfl, rfl, trivial⟩ ⟨⟨rfl, rfl, rfl⟩, Nat.le_of_ble_eq_true rfl, ⟨by rw [foldl_take_succ _ _ _ _ hlt, giveU, if_neg h1]; rfl, rfl, rfl⟩, Nat.le_of_ble_eq_true rfl, ⟨rfl, rfl, rfl⟩, Nat.le_of_ble_eq_true rfl, ⟨rfl, rfl, rfl⟩, Nat.le_of_ble_eq_true rfl, trivial⟩ rfl rfl rfl (sus_ghost (fun _ _ => rfl) (Nat.le_of_ble_eq_true rfl))
      show some (i64 _) = some (i64 _)
      rw [wrapN (by omega)]
  · have hlt : ¬ (j : Int) < (h.slots.l.length : Int) := of_decide_eq_false hr
    have hlt : j = h.slots.l.length := by omega
    subst hlt
    refine p_at (n := 60) C rfl ?_
    refine p_weaken (st1 := ⟨[], eOb ⟨y.1, y.2, endV v.l h⟩ w (endU w u h), 40, 3, [], [ghost ga 3]⟩) id ?_ (.inl rfl) rfl trivial ⟨⟨by rw [List.take_length]; rfl, rfl, rfl⟩, Nat.le_of_ble_eq_true rfl, ⟨rfl, rfl, rfl⟩, Nat.le_of_ble_eq_true rfl, ⟨rfl, rfl, rfl⟩, Nat.le_of_ble_eq_true rfl, trivial⟩ rfl rfl rfl (sus_ghost (fun _ _ => rfl) (Nat.le_of_ble_eq_true rfl))
    exact p_retM (n := 60) C hgh Try.func85 rfl rfl rfl rfl rfl y trivial (Nat.le_refl _) rfl rfl rfl
end Go.Proofs.Ytneddobmlcbabaa
namespace Go.Proofs.Ytneddobmlcbabaa
open Go.SE
open Go.RowKit
open Go.PS
set_option maxRecDepth 100000
set_option maxHeartbeats 4000000

def allV (l : List HoldD) : List FreeD := l.flatMap fun h => h.slots.l
theorem allV_take {l : List HoldD} {j : Nat} (h : j < l.length) : allV (l.take (j + 1)) = allV (l.take j) ++ (l.getD j default).slots.l := by
  unfold allV
  rw [List.take_add_one, List.flatMap_append]
  simp [List.getD_eq_getElem?_getD, h]
theorem appEl_appF (a b : List FreeD) (el' : Nat → List SV) (he : ∀ i, i < b.length → el' i = (b.getD i default).cs) (i : Nat) (hi : i < a.length + b.length) : appEl a.length (fun j => (a.getD j default).cs) el' i = ((a ++ b).getD i default).cs := by
  simp only [appEl]
  by_cases h : i < a.length
  · rw [if_pos h]
    simp [List.getD_eq_getElem?_getD, List.getElem?_append_left h]
  · rw [if_neg h, he _ (by omega)]
    simp [List.getD_eq_getElem?_getD, List.getElem?_append_right (Nat.le_of_not_lt h)]
theorem allV_le {l : List HoldD} (h : ∀ x ∈ l, x.slots.l.length ≤ 20) (j : Nat) : (allV (l.take j)).length ≤ 20 * l.length := by
  have key : ∀ l : List HoldD, (∀ x ∈ l, x.slots.l.length ≤ 20) → (allV l).length ≤ 20 * l.length := by
    intro l
    induction l with
    | nil => intro _; simp [allV]
    | cons x r ih =>
      intro h
      have h1 := h x (by simp)
      have h2 := ih fun y hy => h y (by simp [hy])
      simp only [allV, List.flatMap_cons, List.length_append, List.length_cons] at h2 ⊢
      omega
  have h1 := key (l.take j) fun x hx => h x (List.mem_of_mem_take hx)
  have h2 : (l.take j).length ≤ l.length := by simp; omega
  omega
theorem all_ok (es : Sl HoldD) (hl : es.l.length ≤ 100) (hs : ∀ x ∈ es.l, x.slots.l.length ≤ 20) : PureC Try.prog 82 [es.sv 5 HoldD.cs] (Option Addr × Nat) (fun y => Sl.sv 4 FreeD.cs ⟨y.1, y.2, allV es.l⟩) (fun _ => True) := by
  refine pureC_intro Try.func82 rfl rfl rfl (fun _ => rfl) (Nat.le_of_ble_eq_true rfl) fun XC w0 => ?_
  refine p_loop (n := 60) C rfl ?_
  refine p_nilT 3 (e := 49) (k := 4) (by decide) (by exact Nat.le_of_ble_eq_true rfl) (by rfl) ?_
  let I : Nat → St := fun j => ⟨[(8, i64 (j : Int)), (7, i64 (es.l.length : Int)), (6, es.sv 5 HoldD.cs), (3, .own 0)], [(0, .row 49 4 (allV (es.l.take j)).length fun i => ((allV (es.l.take j)).getD i default).cs)], 18, 1, [], []⟩
  refine p_weaken (st1 := I 0) id (p_inv I (fun j => j ≤ es.l.length) (fun j => es.l.length - j) (fun j hj ih => ?_) 0 (Nat.zero_le _)) (.inl rfl) rfl ⟨rfl, rfl, rfl, rfl, rfl, rfl, rfl, rfl, trivial⟩ ⟨⟨rfl, rfl, rfl, fun i hi => absurd hi (Nat.not_lt_zero _)⟩, Nat.le_of_ble_eq_true rfl, trivial⟩ rfl rfl rfl trivial
  refine p_br (n := 60) C rfl (fun hr => ?_) (fun hr => ?_)
  · have h : (j : Int) < (es.l.length : Int) := of_decide_eq_true hr
    have h : j < es.l.length := by omega
    have hmem : es.l.getD j default ∈ es.l := by
      simp [List.getD_eq_getElem?_getD, h]
    have h20 := hs _ hmem
    have ha := allV_le hs j
    refine p_need (n := 60) C rfl (show (0 : Int) ≤ (j : Int) ∧ (j : Int) < (es.l.length : Int) by omega) ?_
    refine p_need (n := 60) C rfl ⟨by show (allV (es.l.take j)).length + (es.l.getD j default).slots.l.length ≤ maxLen; simp only [maxLen]; omega, by show ((allV (es.l.take j)).length + (es.l.getD j default).slots.l.length) * 32 ≤ _; omega⟩ ?_
    refine p_loop (n := 60) C rfl ?_
    refine p_weaken (st1 := I (j + 1)) (fun _ => 2) (ih (j + 1) (by omega) (by omega)) (.inl rfl) rfl ⟨?_, rfl, rfl, rfl, rfl, rfl, rfl, rfl, trivial⟩ ⟨⟨rfl, rfl, by show (allV (es.l.take j)).length + (es.l.getD j default).slots.l.length = (allV (es.l.take (j + 1))).length; rw [allV_take h, List.length_append], fun i hi => ?_⟩, Nat.le_of_ble_eq_true rfl, trivial⟩ rfl rfl rfl trivial
    · show some (i64 _) = some (i64 _)
      rw [wrapN (by omega)]
    · rw [allV_take h] at hi ⊢
      exact appEl_appF _ _ _ (fun _ _ => rfl) i (by rw [← List.length_append]; exact hi)
  · have h : ¬ (j : Int) < (es.l.length : Int) := of_decide_eq_false hr
    have h : j = es.l.length := by omega
    subst h
    refine p_at (n := 60) C rfl ?_
    refine p_frz 0 rfl fun A c => ?_
    exact p_ret (n := 60) C Try.func82 rfl rfl rfl rfl (A, c) trivial (by rw [List.take_length]; rfl) rfl
def rightW (w : WantD) : Bool := decide (w.sh.chk = 0) && (decide (w.members ≥ 1) && decide (w.members ≤ 16))
theorem rightW_ok (w : WantD) : PureC Try.prog 80 [.a w.cs] Unit (fun _ => bo (rightW w)) (fun _ => True) := by
  refine pureC_intro Try.func80 rfl rfl rfl (fun _ => rfl) (Nat.le_of_ble_eq_true rfl) fun XC w0 => ?_
  refine p_call (n := 60) C (check_ok w.sh.g w.sh.c w.sh.mn w.sh.mx) rfl rfl fun _ _ => ?_
  refine p_br (n := 60) C rfl (fun h1 => ?_) (fun h1 => ?_)
  · have h1 : w.sh.chk = 0 := (by simpa using h1 : checkV w.sh.g w.sh.c w.sh.mn w.sh.mx = 0)
    refine p_br (n := 60) C rfl (fun h2 => ?_) (fun h2 => ?_)
    · have h2 : w.members ≥ 1 := of_decide_eq_true h2
      refine p_ret (n := 60) C Try.func80 rfl rfl rfl rfl () trivial ?_ rfl
      rw [rightW, decide_eq_true h1, decide_eq_true h2]; rfl
    · have h2 : ¬ w.members ≥ 1 := of_decide_eq_false h2
      refine p_ret (n := 60) C Try.func80 rfl rfl rfl rfl () trivial ?_ rfl
      rw [rightW, decide_eq_false h2]; simp; rfl
  · have h1 : ¬ w.sh.chk = 0 := (by simpa using h1 : ¬ checkV w.sh.g w.sh.c w.sh.mn w.sh.mx = 0)
    refine p_br (n := 60) C rfl (fun h => absurd h (by decide)) (fun _ => ?_)
    refine p_ret (n := 60) C Try.func80 rfl rfl rfl rfl () trivial ?_ rfl
    rw [rightW, decide_eq_false h1]; rfl
def fitsW (v : List FreeD) (u : UnitsD) (w : WantD) : Bool := rightW w && (withinV w.sh w.members u && decide (roomV w.sh v ≥ w.members))
theorem fitsW_ok (v : Sl FreeD) (u : UnitsD) (w : WantD) (hl : v.l.length < 4294967296) : PureC Try.prog 86 [v.sv 4 FreeD.cs, .a u.cs, .a w.cs] Unit (fun _ => bo (fitsW v.l u w)) (fun _ => True) := by
  refine pureC_intro Try.func86 rfl rfl rfl (fun _ => rfl) (Nat.le_of_ble_eq_true rfl) fun XC w0 => ?_
  refine p_call (n := 60) C (rightW_ok w) rfl rfl fun _ _ => ?_
  refine p_br (n := 60) C rfl (fun h1 => ?_) (fun h1 => ?_)
  · have h1 : rightW w = false := by simpa using h1
    exact p_ret (n := 60) C Try.func86 rfl rfl rfl rfl () trivial (by rw [fitsW, h1]; rfl) rfl
  have h1 : rightW w = true := by simpa using h1
  refine p_call (n := 60) C (units_ok w.sh w.members) rfl rfl fun _ _ => ?_
  refine p_at (n := 60) C rfl ?_
  refine p_draw C [] (.t 0 <| .t 1 <| .t 2 <| .t 3 <| .t 4 <| .t 5 <| .t 6 <| .t 7 <| .t 8 <| .t 9 <| .t 10 <| .t 11 <| .t 12 <| .t 13 <| .t 14 <| .t 15 <| .t 17 <| .t 18 <| .o 16 <| .t 19 <| .t 20 <| .t 21 .d) (by kernel_rfl) (by kernel_rfl) ?_
  refine d_br C rfl (fun h2 => ?_) (fun h2 => ?_)
  · have h2 : (unitsV w.sh w.members).g ≤ u.g := of_decide_eq_true h2
    refine d_br C rfl (fun h3 => ?_) (fun h3 => ?_)
    · have h3 : (unitsV w.sh w.members).c ≤ u.c := of_decide_eq_true h3
      refine d_call C (room_ok v w.sh hl) rfl fun _ _ => ?_
      refine d_fin C rfl ?_
      refine p_ret (n := 60) C Try.func86 rfl rfl rfl rfl () trivial ?_ rfl
      rw [fitsW, h1, withinV, decide_eq_true h2, decide_eq_true h3]; rfl
    · have h3 : ¬ (unitsV w.sh w.members).c ≤ u.c := of_decide_eq_false h3
      refine d_fin C rfl ?_
      refine p_ret (n := 60) C Try.func86 rfl rfl rfl rfl () trivial ?_ rfl
      rw [fitsW, h1, withinV, decide_eq_true h2, decide_eq_false h3]; rfl
  · have h2 : ¬ (unitsV w.sh w.members).g ≤ u.g := of_decide_eq_false h2
    refine d_br C rfl (fun h => absurd h (by decide)) (fun _ => ?_)
    refine d_fin C rfl ?_
    refine p_ret (n := 60) C Try.func86 rfl rfl rfl rfl () trivial ?_ rfl
    rw [fitsW, h1, withinV, decide_eq_false h2]; rfl
end Go.Proofs.Ytneddobmlcbabaa
namespace Go.Proofs.Ytneddobmlcbabaa
open Go.SE
open Go.RowKit
open Go.PS
set_option maxRecDepth 100000
set_option maxHeartbeats 4000000

def earlFrom (w : WantD) (l : List HoldD) : Nat → Nat → Int → List FreeD → UnitsD → Int
  | 0, _, _, _, _ => 1073741825
  | f + 1, k, t, v, u =>
    if k = l.length ∨ (l.getD k default).until_ > t then
      (if fitsW v u w = true then t else if k = l.length ∨ (l.getD k default).until_ ≥ 1073741825 then 1073741825
      else earlFrom w l f (k + 1) (l.getD k default).until_ (endV v (l.getD k default)) (endU w u (l.getD k default)))
    else earlFrom w l f (k + 1) t (endV v (l.getD k default)) (endU w u (l.getD k default))
def earlV (now : Int) (v : List FreeD) (u : UnitsD) (ends : List HoldD) (w : WantD) : Int × Int :=
  if now < 0 ∨ now > 1073741824 ∨ rightW w = false then (0, 1)
  else if er (turnedV moreT v (allV ends)) ≠ 0 then (0, er (turnedV moreT v (allV ends)))
  else (earlFrom w (stable ltH ends) (ends.length + 1) 0 now v u, 0)
theorem turnedV_len {tn : FreeD → FreeD → Except Int FreeD} {v : List FreeD} : ∀ (sl : List FreeD) (o l : List FreeD), sl.foldlM (turnStep tn v) o = .ok l → l.length = o.length
  | [], o, l, h => by cases h; rfl
  | s :: r, o, l, h => by
    simp only [List.foldlM_cons] at h
    cases hs : turnStep tn v o s with
    | error e => rw [hs] at h; cases h
    | ok o2 =>
      rw [hs] at h
      have h2 := turnedV_len r o2 l h
      have h3 : o2.length = o.length := by
        unfold turnStep at hs
        split at hs
        · cases hs
        · split at hs
          · cases hs
          · split at hs
            · cases hs
            · cases hs; simp
      omega
theorem endV_len (v : List FreeD) (h : HoldD) : (endV v h).length ≤ v.length := by
  unfold endV
  cases hr : turnedV moreT v h.slots.l with
  | error e => simp [ls]
  | ok l => have := turnedV_len _ _ _ hr; simp [ls]; omega
theorem stableH_len (L : List HoldD) : (stable ltH L).length = L.length := (stable_spec (r := fun h : HoldD => h.until_) (lt := ltH) (fun x y => ltH_r x y) L).2.len
theorem stableH_mem (L : List HoldD) (x : HoldD) : x ∈ stable ltH L ↔ x ∈ L := (stable_spec (r := fun h : HoldD => h.until_) (lt := ltH) (fun x y => ltH_r x y) L).2.mem x
theorem earliest_ok (now : Int) (v : Sl FreeD) (u : UnitsD) (ends : Sl HoldD) (w : WantD) (hv : v.l.length < 4294967296) (hl : ends.l.length ≤ 21) (hs : ∀ x ∈ ends.l, x.slots.l.length ≤ 20) :
    PureC Try.prog 59 [i64 now, v.sv 4 FreeD.cs, .a u.cs, ends.sv 5 HoldD.cs, .a w.cs] Unit (fun _ => .t [i64 (earlV now v.l u ends.l w).1, i64 (earlV now v.l u ends.l w).2]) (fun _ => True) := by
  refine pureC_intro Try.func59 rfl rfl rfl (fun _ => rfl) (Nat.le_of_ble_eq_true rfl) fun XC w0 => ?_
  refine p_br (n := 60) C rfl (fun h1 => ?_) (fun h1 => ?_)
  · have h1 : now < 0 := of_decide_eq_true h1
    refine p_br (n := 60) C rfl (fun _ => ?_) (fun h => absurd h (by decide))
    refine p_br (n := 60) C rfl (fun _ => ?_) (fun h => absurd h (by decide))
    exact p_ret (n := 60) C Try.func59 rfl rfl rfl rfl () trivial (by rw [earlV, if_pos (Or.inl h1)]; rfl) rfl
  have h1 : ¬ now < 0 := of_decide_eq_false h1
  refine p_br (n := 60) C rfl (fun h2 => ?_) (fun h2 => ?_)
  · have h2 : now > 1073741824 := of_decide_eq_true h2
    refine p_br (n := 60) C rfl (fun _ => ?_) (fun h => absurd h (by decide))
    exact p_ret (n := 60) C Try.func59 rfl rfl rfl rfl () trivial (by rw [earlV, if_pos (Or.inr (Or.inl h2))]; rfl) rfl
  have h2 : ¬ now > 1073741824 := of_decide_eq_false h2
  refine p_call (n := 60) C (rightW_ok w) rfl rfl fun _ _ => ?_
  refine p_br (n := 60) C rfl (fun h3 => ?_) (fun h3 => ?_)
  · have h3 : rightW w = false := by simpa using h3
    exact p_ret (n := 60) C Try.func59 rfl rfl rfl rfl () trivial (by rw [earlV, if_pos (Or.inr (Or.inr h3))]; rfl) rfl
  have h3 : ¬ rightW w = false := by simpa using h3
  have hno : ¬ (now < 0 ∨ now > 1073741824 ∨ rightW w = false) := by rintro (h | h | h); exact h1 h; exact h2 h; exact h3 h
  refine p_at (n := 60) C rfl ?_
  refine p_draw C [] (.t 0 <| .t 1 <| .o 2 <| .o 3 <| .t 4 <| .t 5 <| .t 6 <| .t 7 <| .t 8 .d) (by kernel_rfl) (by kernel_rfl) ?_
  refine d_call C (all_ok ends (by omega) hs) rfl fun y1 _ => ?_
  have hall : (allV ends.l).length < 4294967296 := by
    have := allV_le hs ends.l.length
    rw [List.take_length] at this
    omega
  refine d_call C (PureC.uni (more_view_ok v ⟨y1.1, y1.2, allV ends.l⟩ hv hall)) rfl fun y2 _ => ?_
  refine d_fin C rfl ?_
  refine p_br (n := 60) C rfl (fun h4 => ?_) (fun h4 => ?_)
  · have h4 : er (turnedV moreT v.l (allV ends.l)) ≠ 0 := by simpa using h4
    exact p_ret (n := 60) C Try.func59 rfl rfl rfl rfl () trivial (by rw [earlV, if_neg hno, if_pos h4]; rfl) rfl
  have h4 : ¬ er (turnedV moreT v.l (allV ends.l)) ≠ 0 := by simpa using h4
  have hE0 : earlV now v.l u ends.l w = (earlFrom w (stable ltH ends.l) (ends.l.length + 1) 0 now v.l u, 0) := by rw [earlV, if_neg hno, if_neg h4]
  rw [hE0]
  refine p_callO (n := 60) C (cloneH_ok ends (by omega)) rfl rfl ?_
  refine p_at (n := 60) C rfl ?_
  refine p_callM C (fun _ => 3) (sortStableH_ok ends.l hl) rfl rfl rfl rfl rfl rfl ⟨⟨rfl, rfl, rfl, fun _ _ => rfl⟩, Nat.le_of_ble_eq_true rfl, trivial⟩ rfl fun _ _ => ?_
  refine p_frz 3 rfl fun A c => ?_
  have hsl := stableH_len ends.l
  have hl20 : ∀ x ∈ stable ltH ends.l, x.slots.l.length ≤ 20 := fun x hx => hs x ((stableH_mem _ _).1 hx)
  rw [← hsl]
  have hl21 : (stable ltH ends.l).length ≤ 21 := by omega
  generalize stable ltH ends.l = l at *
  refine p_loop (n := 60) C rfl ?_
  let I : Nat × Int × Sl FreeD × UnitsD → St := fun x => ⟨[(48, i64 (x.1 : Int)), (47, i64 ((l.length + 1 : Nat) : Int)), (14, Sl.sv 5 HoldD.cs ⟨A, c, l⟩), (15, .f (.func 85) [.p 0 0, .p 2 0, .p 1 0]), (16, i64 x.2.1), (6, .p 0 0), (7, .p 1 0), (9, .p 2 0)], [(2, .cells w.cs 53), (1, .cells x.2.2.2.cs 41), (0, .cells [x.2.2.1.sv 4 FreeD.cs] 22)], 93, 3, [], []⟩
  refine p_weaken (st1 := I (0, now, v, u)) id (p_inv I (fun x => x.1 ≤ l.length ∧ earlFrom w l (l.length + 1 - x.1) x.1 x.2.1 x.2.2.1.l x.2.2.2 = earlFrom w l (l.length + 1) 0 now v.l u ∧ x.2.2.1.l.length < 4294967296) (fun x => l.length + 1 - x.1) (fun x hx ih => ?_) (0, now, v, u) ⟨Nat.zero_le _, rfl, hv⟩) (.inl rfl) rfl ⟨rfl, rfl, ?_, rfl, rfl, rfl, rfl, rfl, rfl, rfl, rfl, rfl, rfl, rfl, rfl, rfl, trivial⟩ ⟨⟨rfl, rfl, rfl⟩, Nat.le_of_ble_eq_true rfl, ⟨rfl, rfl, rfl⟩, Nat.le_of_ble_eq_true rfl, ⟨rfl, rfl, rfl⟩, Nat.le_of_ble_eq_true rfl, trivial⟩ rfl rfl rfl trivial
  rotate_left
  · show some (i64 _) = some (i64 _)
    rw [wrapN (by omega)]
  obtain ⟨k, t, v2, u2⟩ := x
  obtain ⟨x1, x3, x4⟩ := hx
  dsimp only at x1 x3 x4
  refine p_br (n := 60) C rfl (fun hr => ?_) (fun hr => ?_)
  rotate_left
  · have h : ¬ (k : Int) < ((l.length + 1 : Nat) : Int) := of_decide_eq_false hr
    omega
  rw [show l.length + 1 - k = (l.length + 1 - (k + 1)) + 1 by omega, earlFrom] at x3
  refine p_br (n := 60) C rfl (fun h5 => ?_) (fun h5 => ?_)
  · have h5 : k = l.length := by
      have : (k : Int) = (l.length : Int) := by simpa using h5
      omega
    rw [if_pos (Or.inl h5)] at x3
    refine p_br (n := 60) C rfl (fun _ => ?_) (fun h => absurd h (by decide))
    refine p_call (n := 60) C (fitsW_ok v2 u2 w x4) rfl rfl fun _ _ => ?_
    refine p_br (n := 60) C rfl (fun h6 => ?_) (fun h6 => ?_)
    · have h6 : fitsW v2.l u2 w = true := by simpa using h6
      rw [if_pos h6] at x3
      exact p_ret (n := 60) C Try.func59 rfl rfl rfl rfl () trivial (by rw [← x3]; rfl) rfl
    · have h6 : ¬ fitsW v2.l u2 w = true := by simpa using h6
      rw [if_neg h6, if_pos (Or.inl h5)] at x3
      refine p_br (n := 60) C rfl (fun _ => ?_) (fun h => absurd h (by simp [show (k : Int) = (l.length : Int) by omega]))
      refine p_br (n := 60) C rfl (fun _ => ?_) (fun h => absurd h (by decide))
      exact p_ret (n := 60) C Try.func59 rfl rfl rfl rfl () trivial (by rw [← x3]; rfl) rfl
  · have h5 : ¬ k = l.length := by
      intro e
      have : ¬ (k : Int) = (l.length : Int) := by simpa using h5
      omega
    have hk : k < l.length := by omega
    have hmem : l.getD k default ∈ l := by simp [List.getD_eq_getElem?_getD, hk]
    have nk : (0 : Int) ≤ (k : Int) ∧ (k : Int) < (l.length : Int) := by omega
    refine p_need (n := 60) C rfl nk ?_
    refine p_br (n := 60) C rfl (fun h6 => ?_) (fun h6 => ?_)
    · have h6 : (l.getD k default).until_ > t := of_decide_eq_true h6
      rw [if_pos (Or.inr h6)] at x3
      refine p_call (n := 60) C (fitsW_ok v2 u2 w x4) rfl rfl fun _ _ => ?_
      refine p_br (n := 60) C rfl (fun h7 => ?_) (fun h7 => ?_)
      · have h7 : fitsW v2.l u2 w = true := by simpa using h7
        rw [if_pos h7] at x3
        exact p_ret (n := 60) C Try.func59 rfl rfl rfl rfl () trivial (by rw [← x3]; rfl) rfl
      · have h7 : ¬ fitsW v2.l u2 w = true := by simpa using h7
        rw [if_neg h7] at x3
        refine p_br (n := 60) C rfl (fun h => absurd h (by simp [show ¬ (k : Int) = (l.length : Int) by omega])) (fun _ => ?_)
        refine p_need (n := 60) C rfl nk ?_
        refine p_br (n := 60) C rfl (fun h8 => ?_) (fun h8 => ?_)
        · have h8 : (l.getD k default).until_ ≥ 1073741825 := of_decide_eq_true h8
          rw [if_pos (Or.inr h8)] at x3
          exact p_ret (n := 60) C Try.func59 rfl rfl rfl rfl () trivial (by rw [← x3]; rfl) rfl
        · have h8 : ¬ (l.getD k default).until_ ≥ 1073741825 := of_decide_eq_false h8
          rw [if_neg (by rintro (h | h); exact h5 h; exact h8 h)] at x3
          refine p_need (n := 60) C rfl nk ?_
          refine p_need (n := 60) C rfl nk ?_
          have hE : earlFrom w l (l.length + 1 - (k + 1)) (k + 1) (l.getD k default).until_ (endV v2.l (l.getD k default)) (endU w u2 (l.getD k default)) = earlFrom w l (l.length + 1 - (k + 1)) (k + 1) (l.getD k default).until_ (endV v2.l (l.getD k default)) (endU w u2 (l.getD k default)) := rfl
          refine p_at (n := 60) C rfl ?_
          refine p_callM C (fun i => if i = 0 then 0 else if i = 1 then 2 else 1) (end1_ok (l.getD k default) v2 w u2 x4 (by have := hl20 _ hmem; omega)) rfl rfl rfl rfl rfl rfl ⟨⟨rfl, rfl, rfl⟩, Nat.le_of_ble_eq_true rfl, ⟨rfl, rfl, rfl⟩, Nat.le_of_ble_eq_true rfl, ⟨rfl, rfl, rfl⟩, Nat.le_of_ble_eq_true rfl, trivial⟩ rfl fun y _ => ?_
          refine p_loop (n := 60) C rfl ?_
          refine p_weaken (st1 := I (k + 1, (l.getD k default).until_, ⟨y.1, y.2, endV v2.l (l.getD k default)⟩, endU w u2 (l.getD k default))) id (ih (k + 1, (l.getD k default).until_, ⟨y.1, y.2, endV v2.l (l.getD k default)⟩, endU w u2 (l.getD k default)) ⟨by show k + 1 ≤ l.length; omega, hE.symm.trans x3, by show (endV v2.l (l.getD k default)).length < _; have := endV_len v2.l (l.getD k default); omega⟩ (by show l.length + 1 - (k + 1) < l.length + 1 - k; omega)) (.inl rfl) rfl ⟨?_, rfl, rfl, rfl, rfl, rfl, rfl, rfl, rfl, rfl, rfl, rfl, rfl, rfl, rfl, rfl, trivial⟩ ⟨⟨rfl, rfl, rfl⟩, Nat.le_of_ble_eq_true rfl, ⟨rfl, rfl, rfl⟩, Nat.le_of_ble_eq_true rfl, ⟨rfl, rfl, rfl⟩, Nat.le_of_ble_eq_true rfl, trivial⟩ rfl rfl rfl trivial
          show some (i64 _) = some (i64 _)
          dsimp only
          rw [wrapN (by omega)]
    · have h6 : ¬ (l.getD k default).until_ > t := of_decide_eq_false h6
      rw [if_neg (by rintro (h | h); exact h5 h; exact h6 h)] at x3
      refine p_need (n := 60) C rfl nk ?_
      have hE : earlFrom w l (l.length + 1 - (k + 1)) (k + 1) t (endV v2.l (l.getD k default)) (endU w u2 (l.getD k default)) = earlFrom w l (l.length + 1 - (k + 1)) (k + 1) t (endV v2.l (l.getD k default)) (endU w u2 (l.getD k default)) := rfl
      refine p_at (n := 60) C rfl ?_
      refine p_callM C (fun i => if i = 0 then 0 else if i = 1 then 2 else 1) (end1_ok (l.getD k default) v2 w u2 x4 (by have := hl20 _ hmem; omega)) rfl rfl rfl rfl rfl rfl ⟨⟨rfl, rfl, rfl⟩, Nat.le_of_ble_eq_true rfl, ⟨rfl, rfl, rfl⟩, Nat.le_of_ble_eq_true rfl, ⟨rfl, rfl, rfl⟩, Nat.le_of_ble_eq_true rfl, trivial⟩ rfl fun y _ => ?_
      refine p_loop (n := 60) C rfl ?_
      refine p_weaken (st1 := I (k + 1, t, ⟨y.1, y.2, endV v2.l (l.getD k default)⟩, endU w u2 (l.getD k default))) id (ih (k + 1, t, ⟨y.1, y.2, endV v2.l (l.getD k default)⟩, endU w u2 (l.getD k default)) ⟨by show k + 1 ≤ l.length; omega, hE.symm.trans x3, by show (endV v2.l (l.getD k default)).length < _; have := endV_len v2.l (l.getD k default); omega⟩ (by show l.length + 1 - (k + 1) < l.length + 1 - k; omega)) (.inl rfl) rfl ⟨?_, rfl, rfl, rfl, rfl, rfl, rfl, rfl, rfl, rfl, rfl, rfl, rfl, rfl, rfl, rfl, trivial⟩ ⟨⟨rfl, rfl, rfl⟩, Nat.le_of_ble_eq_true rfl, ⟨rfl, rfl, rfl⟩, Nat.le_of_ble_eq_true rfl, ⟨rfl, rfl, rfl⟩, Nat.le_of_ble_eq_true rfl, trivial⟩ rfl rfl rfl trivial
      show some (i64 _) = some (i64 _)
      dsimp only
      rw [wrapN (by omega)]
end Go.Proofs.Ytneddobmlcbabaa
namespace Go.Proofs.Ytneddobmlcbabaa
open Go.SE
open Go.RowKit
open Go.PS
set_option maxRecDepth 100000
set_option maxHeartbeats 4000000

def afterV (now : Int) (v : List FreeD) (u : UnitsD) (ends : List HoldD) (w : WantD) (h : HoldD) : Int × Int :=
  if er (turnedV lessT v h.slots.l) ≠ 0 then (0, er (turnedV lessT v h.slots.l))
  else earlV now (ls (turnedV lessT v h.slots.l)) (if h.queue = w.queue then h.slots.l.foldl takeU u else u) (ends ++ [h]) w
theorem lessV_len (v : List FreeD) (sl : List FreeD) : (ls (turnedV lessT v sl)).length ≤ v.length := by
  cases hr : turnedV lessT v sl with
  | error e => simp [ls]
  | ok l => have := turnedV_len _ _ _ hr; simp [ls]; omega
theorem appEl_snocH (out : List HoldD) (p : HoldD) (i : Nat) (hi : i < out.length + 1) : appEl out.length (fun j => (out.getD j default).cs) (rowEl 5 p.cs) i = ((out ++ [p]).getD i default).cs := by
  simp only [appEl]
  by_cases h : i < out.length
  · rw [if_pos h]
    simp [List.getD_eq_getElem?_getD, List.getElem?_append_left h]
  · have : i = out.length := by omega
    subst this
    rw [if_neg h]
    simp [List.getD_eq_getElem?_getD, rowEl, HoldD.cs]
theorem after_ok (now : Int) (v : Sl FreeD) (u : UnitsD) (ends : Sl HoldD) (w : WantD) (h : HoldD) (hv : v.l.length < 4294967296) (hl : ends.l.length ≤ 20) (hs : ∀ x ∈ ends.l, x.slots.l.length ≤ 20) (hh : h.slots.l.length ≤ 20) :
    PureC Try.prog 33 [i64 now, v.sv 4 FreeD.cs, .a u.cs, ends.sv 5 HoldD.cs, .a w.cs, .a h.cs] Unit (fun _ => .t [i64 (afterV now v.l u ends.l w h).1, i64 (afterV now v.l u ends.l w h).2]) (fun _ => True) := by
  refine pureC_intro Try.func33 rfl rfl rfl (fun _ => rfl) (Nat.le_of_ble_eq_true rfl) fun XC w0 => ?_
  refine p_call (n := 60) C (PureC.uni (less_view_ok v h.slots hv (by omega))) rfl rfl fun y _ => ?_
  refine p_br (n := 60) C rfl (fun h1 => ?_) (fun h1 => ?_)
  · have h1 : er (turnedV lessT v.l h.slots.l) ≠ 0 := by simpa using h1
    exact p_ret (n := 60) C Try.func33 rfl rfl rfl rfl () trivial (by rw [afterV, if_pos h1]; rfl) rfl
  have h1 : ¬ er (turnedV lessT v.l h.slots.l) ≠ 0 := by simpa using h1
  have hv2 := lessV_len v.l h.slots.l
  have hs2 : ∀ x ∈ ends.l ++ [h], x.slots.l.length ≤ 20 := fun x hx => by
    rcases List.mem_append.1 hx with hx | hx
    · exact hs x hx
    · simp at hx; subst hx; exact hh
  have hn1 : ends.l.length + 1 = (ends.l ++ [h]).length := by simp
  refine p_br (n := 60) C rfl (fun h2 => ?_) (fun h2 => ?_)
  · have h2 : h.queue = w.queue := by simpa using h2
    refine p_call (n := 60) C (take_ok u h.slots (by omega)) rfl rfl fun _ _ => ?_
    refine p_at (n := 60) C rfl ?_
    refine p_draw2 C [3, 4, 5] (.t 0 <| .t 1 <| .t 2 <| .t 3 <| .t 5 <| .t 8 <| .w <| .f 4 (.o 6 <| .o 7 <| .o 9 <| .r 10 <| .r 11 <| .r 12 <| .r 13 .d) 6 (.o 4 <| .o 7 <| .o 9 <| .r 10 <| .r 11 <| .r 12 <| .r 13 .d)) (by kernel_rfl) (by kernel_rfl) ?_
    refine d_fork C rfl ?_ ?_
    · refine (d1_callO C rfl (by kernel_rfl) rfl (cloneH_ok ends (by omega)) rfl rfl ?_)
      refine d_need C rfl (show ends.l.length + 1 ≤ maxLen ∧ (ends.l.length + 1) * 56 ≤ 140737488355328 by simp only [maxLen]; omega) ?_
      refine d_at C rfl ?_
      refine d_row 5 (fun i => ((ends.l ++ [h]).getD i default).cs) rfl (fun i hi => appEl_snocH ends.l h i hi) ?_
      refine d_frz 5 rfl rfl fun A c => ?_
      rw [hn1]
      refine d_call C (earliest_ok now ⟨y.1, y.2, ls (turnedV lessT v.l h.slots.l)⟩ (h.slots.l.foldl takeU u) ⟨A, c, ends.l ++ [h]⟩ w (by show List.length (ls _) < _; omega) (by show List.length (_ ++ _) ≤ _; simp; omega) hs2) rfl fun _ _ => ?_
      refine d_fin C rfl ?_
      exact p_ret (n := 60) C Try.func33 rfl rfl rfl rfl () trivial (by rw [afterV, if_neg h1, if_pos h2]; rfl) rfl
    · refine (d1_ok C rfl (by kernel_rfl) rfl rfl ?_)
      refine d_callO C rfl rfl (cloneH_ok ends (by omega)) rfl rfl ?_
      refine d_need C rfl (show ends.l.length + 1 ≤ maxLen ∧ (ends.l.length + 1) * 56 ≤ 140737488355328 by simp only [maxLen]; omega) ?_
      refine d_at C rfl ?_
      refine d_row 5 (fun i => ((ends.l ++ [h]).getD i default).cs) rfl (fun i hi => appEl_snocH ends.l h i hi) ?_
      refine d_frz 5 rfl rfl fun A c => ?_
      rw [hn1]
      refine d_call C (earliest_ok now ⟨y.1, y.2, ls (turnedV lessT v.l h.slots.l)⟩ (h.slots.l.foldl takeU u) ⟨A, c, ends.l ++ [h]⟩ w (by show List.length (ls _) < _; omega) (by show List.length (_ ++ _) ≤ _; simp; omega) hs2) rfl fun _ _ => ?_
      refine d_fin C rfl ?_
      exact p_ret (n := 60) C Try.func33 rfl rfl rfl rfl () trivial (by rw [afterV, if_neg h1, if_pos h2]; rfl) rfl
  · have h2 : ¬ h.queue = w.queue := by simpa using h2
    refine p_at (n := 60) C rfl ?_
    refine p_draw2 C [3, 4, 5] (.t 0 <| .t 1 <| .t 2 <| .t 3 <| .t 5 <| .t 8 <| .w <| .f 4 (.o 6 <| .o 7 <| .o 9 <| .r 10 <| .r 11 <| .r 12 <| .r 13 .d) 6 (.o 4 <| .o 7 <| .o 9 <| .r 10 <| .r 11 <| .r 12 <| .r 13 .d)) (by kernel_rfl) (by kernel_rfl) ?_
    refine d_fork C rfl ?_ ?_
    · refine (d1_callO C rfl (by kernel_rfl) rfl (cloneH_ok ends (by omega)) rfl rfl ?_)
      refine d_need C rfl (show ends.l.length + 1 ≤ maxLen ∧ (ends.l.length + 1) * 56 ≤ 140737488355328 by simp only [maxLen]; omega) ?_
      refine d_at C rfl ?_
      refine d_row 5 (fun i => ((ends.l ++ [h]).getD i default).cs) rfl (fun i hi => appEl_snocH ends.l h i hi) ?_
      refine d_frz 5 rfl rfl fun A c => ?_
      rw [hn1]
      refine d_call C (earliest_ok now ⟨y.1, y.2, ls (turnedV lessT v.l h.slots.l)⟩ u ⟨A, c, ends.l ++ [h]⟩ w (by show List.length (ls _) < _; omega) (by show List.length (_ ++ _) ≤ _; simp; omega) hs2) rfl fun _ _ => ?_
      refine d_fin C rfl ?_
      exact p_ret (n := 60) C Try.func33 rfl rfl rfl rfl () trivial (by rw [afterV, if_neg h1, if_neg h2]; rfl) rfl
    · refine (d1_ok C rfl (by kernel_rfl) rfl rfl ?_)
      refine d_callO C rfl rfl (cloneH_ok ends (by omega)) rfl rfl ?_
      refine d_need C rfl (show ends.l.length + 1 ≤ maxLen ∧ (ends.l.length + 1) * 56 ≤ 140737488355328 by simp only [maxLen]; omega) ?_
      refine d_at C rfl ?_
      refine d_row 5 (fun i => ((ends.l ++ [h]).getD i default).cs) rfl (fun i hi => appEl_snocH ends.l h i hi) ?_
      refine d_frz 5 rfl rfl fun A c => ?_
      rw [hn1]
      refine d_call C (earliest_ok now ⟨y.1, y.2, ls (turnedV lessT v.l h.slots.l)⟩ u ⟨A, c, ends.l ++ [h]⟩ w (by show List.length (ls _) < _; omega) (by show List.length (_ ++ _) ≤ _; simp; omega) hs2) rfl fun _ _ => ?_
      refine d_fin C rfl ?_
      exact p_ret (n := 60) C Try.func33 rfl rfl rfl rfl () trivial (by rw [afterV, if_neg h1, if_neg h2]; rfl) rfl
end Go.Proofs.Ytneddobmlcbabaa
namespace Go.Proofs.Ytneddobmlcbabaa
open Go.SE
open Go.RowKit
open Go.PS
set_option maxRecDepth 100000
set_option maxHeartbeats 4000000

/-- what of a hold the promise looks at -/
def hp (h : HoldD) : Int × Int × List FreeD := (h.queue, h.until_, h.slots.l)
theorem srt_unique {α β : Type} (r : α → Int) : ∀ (L1 L2 : List α) (g : α → β), Srt r L1 → Srt r L2 → (∀ i, (L1.filter fun x => r x == i).map g = (L2.filter fun x => r x == i).map g) → L1.map g = L2.map g
  | [], [], g, _, _, _ => rfl
  | [], y :: L2, g, _, _, h => by
    have := h (r y)
    simp at this
  | x :: L1, [], g, _, _, h => by
    have := h (r x)
    simp at this
  | x :: L1, y :: L2, g, s1, s2, h => by
    have s1' := List.pairwise_cons.1 s1
    have s2' := List.pairwise_cons.1 s2
    have le1 : r x ≤ r y := by
      have := h (r y)
      rw [List.filter_cons (x := y), if_pos (by simp)] at this
      have hm : g y ∈ ((x :: L1).filter fun z => r z == r y).map g := by rw [this]; simp
      obtain ⟨z, hz, hg⟩ := List.mem_map.1 hm
      obtain ⟨hz1, hz2⟩ := List.mem_filter.1 hz
      have hz2 : r z = r y := by simpa using hz2
      rcases List.mem_cons.1 hz1 with rfl | hz1
      · omega
      · have := s1'.1 z hz1; omega
    have le2 : r y ≤ r x := by
      have := h (r x)
      rw [List.filter_cons (x := x), if_pos (by simp)] at this
      have hm : g x ∈ ((y :: L2).filter fun z => r z == r x).map g := by rw [← this]; simp
      obtain ⟨z, hz, hg⟩ := List.mem_map.1 hm
      obtain ⟨hz1, hz2⟩ := List.mem_filter.1 hz
      have hz2 : r z = r x := by simpa using hz2
      rcases List.mem_cons.1 hz1 with rfl | hz1
      · omega
      · have := s2'.1 z hz1; omega
    have e : r x = r y := by omega
    have hg : g x = g y := by
      have := h (r x)
      rw [List.filter_cons (x := x), if_pos (by simp), List.filter_cons (x := y), if_pos (by simp [e])] at this
      simp at this
      exact this.1
    rw [List.map_cons, List.map_cons, hg, srt_unique r L1 L2 g s1'.2 s2'.2 fun i => ?_]
    have := h i
    rw [List.filter_cons (x := x), List.filter_cons (x := y)] at this
    by_cases hi : r x = i
    · rw [if_pos (by simpa using hi), if_pos (by rw [← e]; simpa using hi)] at this
      simp at this
      exact this.2
    · rw [if_neg (by simpa using hi), if_neg (by rw [← e]; simpa using hi)] at this
      exact this
theorem filter_hp (i : Int) : ∀ (A B : List HoldD), A.map hp = B.map hp → (A.filter fun x => x.until_ == i).map hp = (B.filter fun x => x.until_ == i).map hp
  | [], [], _ => rfl
  | [], _ :: _, h => by simp at h
  | _ :: _, [], h => by simp at h
  | x :: A, y :: B, h => by
    simp only [List.map_cons, List.cons.injEq] at h
    have ih := filter_hp i A B h.2
    have hu : x.until_ = y.until_ := by have := h.1; simp [hp] at this; exact this.2.1
    rw [List.filter_cons, List.filter_cons, hu]
    split
    · simp only [List.map_cons, ih, h.1]
    · exact ih
theorem stable_hp (A B : List HoldD) (h : A.map hp = B.map hp) : (stable ltH A).map hp = (stable ltH B).map hp := by
  have hA := stable_spec (r := fun h : HoldD => h.until_) (lt := ltH) (fun x y => ltH_r x y) A
  have hB := stable_spec (r := fun h : HoldD => h.until_) (lt := ltH) (fun x y => ltH_r x y) B
  refine srt_unique (fun h : HoldD => h.until_) _ _ hp hA.1 hB.1 fun i => ?_
  have e1 := hA.2 i
  have e2 := hB.2 i
  rw [e1, e2]
  exact filter_hp i A B h
theorem allV_hp : ∀ (A B : List HoldD), A.map hp = B.map hp → allV A = allV B
  | [], [], _ => rfl
  | [], _ :: _, h => by simp at h
  | _ :: _, [], h => by simp at h
  | x :: A, y :: B, h => by
    simp only [List.map_cons, List.cons.injEq] at h
    have ih := allV_hp A B h.2
    have hu : x.slots.l = y.slots.l := by have := h.1; simp [hp] at this; exact this.2.2
    unfold allV at ih ⊢
    rw [List.flatMap_cons, List.flatMap_cons, ih, hu]
theorem getD_hp {A B : List HoldD} (h : A.map hp = B.map hp) (k : Nat) : hp (A.getD k default) = hp (B.getD k default) := by
  have : (A.map hp).getD k (hp default) = (B.map hp).getD k (hp default) := by rw [h]
  simp only [List.getD_eq_getElem?_getD, List.getElem?_map] at this ⊢
  cases h1 : A[k]? <;> cases h2 : B[k]? <;> simp [h1, h2] at this ⊢ <;> exact this
theorem earlFrom_hp (w : WantD) {A B : List HoldD} (h : A.map hp = B.map hp) : ∀ (f k : Nat) (t : Int) (v : List FreeD) (u : UnitsD), earlFrom w A f k t v u = earlFrom w B f k t v u
  | 0, _, _, _, _ => rfl
  | f + 1, k, t, v, u => by
    have hl : A.length = B.length := by have := congrArg List.length h; simpa using this
    have hk := getD_hp h k
    simp only [hp, Prod.mk.injEq] at hk
    obtain ⟨k1, k2, k3⟩ := hk
    have hE : endV v (A.getD k default) = endV v (B.getD k default) := by unfold endV; rw [k3]
    have hU : endU w u (A.getD k default) = endU w u (B.getD k default) := by unfold endU; rw [k3, k1]
    rw [earlFrom, earlFrom, hl, k2, hE, hU, earlFrom_hp w h f, earlFrom_hp w h f]
theorem earlV_hp (now : Int) (v : List FreeD) (u : UnitsD) (w : WantD) {A B : List HoldD} (h : A.map hp = B.map hp) : earlV now v u A w = earlV now v u B w := by
  have hl : A.length = B.length := by have := congrArg List.length h; simpa using this
  rw [earlV, earlV, allV_hp A B h, hl, earlFrom_hp w (stable_hp A B h)]
def holdOf (q t : Int) (sl : List FreeD) : HoldD := ⟨0, q, t, false, ⟨none, 0, sl⟩⟩
def sfV : SafeT := fun now v u ends w prom q t sl =>
  let a := afterV now v u ends w (holdOf q t sl)
  (decide (a.2 = 0) && decide (a.1 ≤ max now prom), a.2)
theorem afterV_hp (now : Int) (v : List FreeD) (u : UnitsD) (ends : List HoldD) (w : WantD) (h : HoldD) : afterV now v u ends w h = afterV now v u ends w (holdOf h.queue h.until_ h.slots.l) := by
  unfold afterV
  rw [earlV_hp (A := ends ++ [h]) (B := ends ++ [holdOf h.queue h.until_ h.slots.l]) _ _ _ _ (by simp [hp, holdOf])]
  rfl
theorem safe14_ok : SafeC sfV := by
  intro now prom v u ends w h hS
  have hq : ∀ a, afterV now v.l u ends.l w h = a → sfV now v.l u ends.l w prom h.queue h.until_ h.slots.l = (decide (a.2 = 0) && decide (a.1 ≤ max now prom), a.2) := fun a ha => by
    rw [afterV_hp] at ha
    unfold sfV
    rw [ha]
  refine pureC_intro Try.func14 rfl rfl rfl (fun _ => rfl) (Nat.le_of_ble_eq_true rfl) fun XC w0 => ?_
  refine p_call (n := 60) C (after_ok now v u ends w h (by have := hS.view; omega) hS.ends hS.each hS.slots) rfl rfl fun _ _ => ?_
  generalize afterV now v.l u ends.l w h = a at hq
  obtain ⟨a1, a2⟩ := a
  rw [hq _ rfl]
  refine p_br (n := 60) C rfl (fun h2 => ?_) (fun h2 => ?_)
  · have h2 : a2 = 0 := by simpa using h2

    exact p_ret (n := 60) C Try.func14 rfl rfl rfl rfl () trivial (by rw [show max now prom = if now < prom then prom else now by split <;> omega]; simp [h2]; rfl) rfl
  · have h2 : ¬ a2 = 0 := by simpa using h2
    exact p_ret (n := 60) C Try.func14 rfl rfl rfl rfl () trivial (by simp [h2]; rfl) rfl
end Go.Proofs.Ytneddobmlcbabaa
