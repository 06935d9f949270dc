/- A walk by symbols over the given program, a part of it: lemmas alone; what is claimed stands in the last text. No conditions of its own. -/
import Derived.Test.YtneddobmlcbabaaWaG
set_option linter.unusedVariables false
set_option linter.unusedSimpArgs false
namespace Go.Proofs.Ytneddobmlcbabaa
open Go.SE
open Go.RowKit
set_option maxRecDepth 100000
set_option maxHeartbeats 4000000

def RightP (l : List FreeD) : Prop := ∀ i, i < l.length → 0 ≤ (l.getD i default).c ∧ (l.getD i default).c ≤ 1048576 ∧ findV (l.take i) (l.getD i default).nd (l.getD i default).dm < 0
theorem take_getD {l : List FreeD} {j i : Nat} (h : i < j) : (l.take j).getD i default = l.getD i default := by
  simp [List.getD_eq_getElem?_getD, List.getElem?_take, h]
theorem right_ok (v : Sl FreeD) (hl : v.l.length < 4294967296) : PureC Try.prog 46 [v.sv 4 FreeD.cs] Bool (fun y => bo y) (fun y => y = true → RightP v.l) := by
  refine pureC_intro Try.func46 rfl rfl rfl (fun _ => rfl) (Nat.le_of_ble_eq_true rfl) fun XC w0 => ?_
  refine p_fact (t := 0) rfl fun hf1 hf2 hf3 => ?_
  refine p_loop (n := 60) C rfl ?_
  let I : Nat → St := fun j => ⟨[(3, i64 (j : Int)), (0, v.sv 4 FreeD.cs)], [], 36, 0, [], []⟩
  refine p_weaken (st1 := I 0) id (p_inv I (fun j => j ≤ v.l.length ∧ ∀ i, i < j → 0 ≤ (v.l.getD i default).c ∧ (v.l.getD i default).c ≤ 1048576 ∧ findV (v.l.take i) (v.l.getD i default).nd (v.l.getD i default).dm < 0) (fun j => v.l.length - j) (fun j hj ih => ?_) 0 ⟨Nat.zero_le _, fun i hi => absurd hi (Nat.not_lt_zero _)⟩) (.inl rfl) rfl ⟨rfl, rfl, rfl, rfl, trivial⟩ trivial rfl rfl rfl trivial
  obtain ⟨hj, h0⟩ := hj
  refine p_br (n := 60) C rfl (fun h => ?_) (fun h => ?_)
  · simp only [decide_eq_true_eq, Int.ofNat_lt] at h
    have hjj : (0 : Int) ≤ (j : Int) ∧ (j : Int) < (v.l.length : Int) := ⟨by omega, by omega⟩
    refine p_at (n := 60) C rfl ?_
    refine p_draw C [] (.t 0 <| .t 1 <| .t 2 <| .t 3 <| .t 4 <| .t 5 <| .t 6 <| .t 7 <| .t 8 <| .t 9 <| .t 10 <| .t 11 <| .t 12 <| .t 13 <| .t 14 <| .t 15 <| .t 16 <| .t 17 <| .t 18 <| .t 19 <| .t 20 <| .t 21 <| .t 22 <| .o 23 <| .t 24 <| .t 25 .d) (by kernel_rfl) (by kernel_rfl) ?_
    refine d_need C rfl ⟨hjj, hjj⟩ ?_
    refine d_br C rfl (fun h2 => ?_) (fun h2 => ?_)
    · refine d_br C rfl (fun _ => ?_) (fun h => absurd h (by decide))
      refine d_fin C rfl ?_
      refine p_br (n := 60) C rfl (fun _ => ?_) (fun h => absurd h (by decide))
      exact p_ret (n := 60) C Try.func46 rfl rfl rfl rfl false (fun h => by cases h) rfl rfl
    · refine d_need C rfl ⟨hjj, hjj⟩ ?_
      refine d_br C rfl (fun h3 => ?_) (fun h3 => ?_)
      · refine d_fin C rfl ?_
        refine p_br (n := 60) C rfl (fun _ => ?_) (fun h => absurd h (by decide))
        exact p_ret (n := 60) C Try.func46 rfl rfl rfl rfl false (fun h => by cases h) rfl rfl
      · refine d_need C rfl ⟨⟨by omega, by omega, by omega⟩, ⟨by omega, by omega, by omega⟩⟩ ?_
        refine d_need C rfl ⟨hjj, hjj⟩ ?_
        simp only [decide_eq_false_iff_not, Int.toNat_natCast] at h2
        simp only [cond_false, decide_eq_false_iff_not, Int.toNat_natCast] at h3
        refine d_call C (find_ok _ _ _ _ (v.l.take j) (by simp; omega) (fun i hi => ?_) (v.l.getD j default).nd (v.l.getD j default).dm (by simp; omega)) rfl fun _ _ => ?_
        · show (v.l.getD (0 + i) default).cs = _
          rw [Nat.zero_add, take_getD (by simp at hi; omega)]
        refine d_fin C rfl ?_
        refine p_br (n := 60) C rfl (fun h4 => ?_) (fun h4 => ?_)
        · exact p_ret (n := 60) C Try.func46 rfl rfl rfl rfl false (fun h => by cases h) rfl rfl
        · simp only [cond_false, decide_eq_false_iff_not] at h4
          refine p_loop (n := 60) C rfl ?_
          refine p_weaken (st1 := I (j + 1)) id (ih (j + 1) ⟨h, fun i hi => ?_⟩ (by omega)) (.inl rfl) rfl ⟨?_, rfl, rfl, rfl, trivial⟩ trivial rfl rfl rfl trivial
          · rcases Nat.lt_succ_iff_lt_or_eq.1 hi with h' | h'
            · exact h0 i h'
            · subst h'; exact ⟨by omega, by omega, by omega⟩
          · show some (i64 _) = some (i64 _)
            rw [wrapN (by omega)]
  · simp only [decide_eq_false_iff_not, Int.ofNat_lt] at h
    have hj' : j = v.l.length := by omega
    subst hj'
    exact p_ret (n := 60) C Try.func46 rfl rfl rfl rfl true (fun _ => h0) rfl rfl
end Go.Proofs.Ytneddobmlcbabaa
namespace Go.Proofs.Ytneddobmlcbabaa
open Go.SE
open Go.RowKit
set_option maxRecDepth 100000
set_option maxHeartbeats 4000000

theorem has_ok' (m x : Int) (h0 : 0 ≤ x) (h1 : x < 64) : PureC Try.prog 65 [u64 m, i64 x] Unit (fun _ => bo (hasV m x.toNat)) (fun _ => True) := by
  obtain ⟨k, rfl⟩ : ∃ k : Nat, x = (k : Int) := ⟨x.toNat, by omega⟩
  exact has_ok m k (by omega)
theorem unitsTo_mem (m : Int) (j : Nat) : ∀ x ∈ unitsTo m j, 0 ≤ x ∧ x < j := by
  induction j with
  | zero => simp [unitsTo]
  | succ j ih =>
    intro x hx
    simp only [unitsTo] at hx
    split at hx
    · rcases List.mem_append.1 hx with h | h
      · have := ih x h; omega
      · simp at h; omega
    · have := ih x hx; omega
def masksV (a b : Int) : Nat := (unitsTo a 64).countP fun x => hasV b x.toNat
theorem masks_ok (a b : Int) : PureC Try.prog 43 [u64 a, u64 b] Unit (fun _ => i64 (masksV a b : Int)) (fun _ => True) := by
  refine pureC_intro Try.func43 rfl rfl rfl (fun _ => rfl) (Nat.le_of_ble_eq_true rfl) fun XC w0 => ?_
  refine p_call (n := 60) C (unitsR_ok a) rfl rfl fun y _ => ?_
  refine p_loop (n := 60) C rfl ?_
  have hlen := unitsTo_len a 64
  let I : Nat → St := fun j => ⟨[(7, i64 (j : Int)), (6, Sl.sv 1 intC ⟨y.1, y.2, unitsTo a 64⟩), (5, i64 ((((unitsTo a 64).take j).countP fun x => hasV b x.toNat : Nat) : Int)), (1, u64 b)], [], 25, 0, [], []⟩
  refine p_weaken (st1 := I 0) id (p_inv I (fun j => j ≤ (unitsTo a 64).length) (fun j => (unitsTo a 64).length - j) (fun j hj ih => ?_) 0 (Nat.zero_le _)) (.inl rfl) rfl ⟨rfl, rfl, rfl, rfl, rfl, rfl, rfl, rfl, trivial⟩ trivial rfl rfl rfl trivial
  have hc : ((unitsTo a 64).take j).countP (fun x => hasV b x.toNat) ≤ 64 := Nat.le_trans List.countP_le_length (by simp; omega)
  refine p_br (n := 60) C rfl (fun h => ?_) (fun h => ?_)
  · have h : (j : Int) < ((unitsTo a 64).length : Int) := of_decide_eq_true h
    have h' : j < (unitsTo a 64).length := by omega
    have hmem : (unitsTo a 64).getD j default ∈ unitsTo a 64 := by simp [List.getD_eq_getElem?_getD, h']
    have hm := unitsTo_mem a 64 _ hmem
    have hstep : ((unitsTo a 64).take (j + 1)).countP (fun x => hasV b x.toNat) = ((unitsTo a 64).take j).countP (fun x => hasV b x.toNat) + (if hasV b ((unitsTo a 64).getD j default).toNat then 1 else 0) := by
      rw [List.take_add_one, List.countP_append]
      simp [List.getD_eq_getElem?_getD, h', List.countP_cons]
    refine p_need (n := 60) C rfl (show (0 : Int) ≤ (j : Int) ∧ (j : Int) < ((unitsTo a 64).length : Int) from ⟨by omega, h⟩) ?_
    refine p_call (n := 60) C (has_ok' b ((unitsTo a 64).getD j default) hm.1 hm.2) rfl rfl fun _ _ => ?_
    refine p_br (n := 60) C rfl (fun h2 => ?_) (fun h2 => ?_)
    · refine p_loop (n := 60) C rfl ?_
      refine p_weaken (st1 := I (j + 1)) id (ih (j + 1) h' (by omega)) (.inl rfl) rfl ⟨?_, rfl, rfl, rfl, ?_, rfl, rfl, rfl, trivial⟩ trivial rfl rfl rfl trivial
      · show some (i64 _) = some (i64 _)
        rw [wrapN (by omega)]
      · show some (i64 _) = some (i64 _)
        rw [hstep, if_pos h2, wrapN (by omega)]
    · refine p_loop (n := 60) C rfl ?_
      refine p_weaken (st1 := I (j + 1)) id (ih (j + 1) h' (by omega)) (.inl rfl) rfl ⟨?_, rfl, rfl, rfl, ?_, rfl, rfl, rfl, trivial⟩ trivial rfl rfl rfl trivial
      · show some (i64 _) = some (i64 _)
        rw [wrapN (by omega)]
      · show some (i64 _) = some (i64 _)
        have h2' : hasV b ((unitsTo a 64).getD j default).toNat = false := h2
        rw [hstep, h2']
        simp only [Bool.false_eq_true, if_false, Nat.add_zero]
  · have h : ¬ (j : Int) < ((unitsTo a 64).length : Int) := of_decide_eq_false h
    have hj' : j = (unitsTo a 64).length := by omega
    subst hj'
    exact p_ret (n := 60) C Try.func43 rfl rfl rfl rfl () trivial (by rw [List.take_length]; rfl) rfl
def few12P (v : List FreeD) (u : UnitsD) (ends : List HoldD) : Prop := v.length ≤ 70 ∧ RightP v ∧ ends.length ≤ 20 ∧ -1048576 ≤ u.g ∧ u.g ≤ 1048576 ∧ -1048576 ≤ u.c ∧ u.c ≤ 1048576 ∧ ∀ h ∈ ends, h.slots.l.length ≤ 20
theorem few12_ok (v : Sl FreeD) (u : UnitsD) (ends : Sl HoldD) : PureC Try.prog 25 [v.sv 4 FreeD.cs, .a u.cs, ends.sv 5 HoldD.cs] Bool (fun y => bo y) (fun y => y = true → few12P v.l u ends.l) := by
  refine pureC_intro Try.func25 rfl rfl rfl (fun _ => rfl) (Nat.le_of_ble_eq_true rfl) fun XC w0 => ?_
  have hF : (false = true → few12P v.l u ends.l) := fun h => by cases h
  refine p_br (n := 60) C rfl (fun h1 => ?_) (fun h1 => ?_)
  · repeat' first
      | (refine p_br (n := 100) C rfl (fun h => ?_) (fun h => ?_) <;> first | (exact absurd h (by decide)) | skip)
      | exact p_ret (n := 100) C Try.func25 rfl rfl rfl rfl false hF rfl rfl
  have hl : v.l.length < 4294967296 := by
    have := of_decide_eq_false h1
    omega
  refine p_call (n := 100) C (right_ok v hl) rfl rfl fun y hy => ?_
  refine p_br (n := 100) C rfl (fun h2 => ?_) (fun h2 => ?_)
  · repeat' first
      | (refine p_br (n := 100) C rfl (fun h => ?_) (fun h => ?_) <;> first | (exact absurd h (by decide)) | skip)
      | exact p_ret (n := 100) C Try.func25 rfl rfl rfl rfl false hF rfl rfl
  refine p_br (n := 100) C rfl (fun h3 => ?_) (fun h3 => ?_)
  · repeat' first
      | (refine p_br (n := 100) C rfl (fun h => ?_) (fun h => ?_) <;> first | (exact absurd h (by decide)) | skip)
      | exact p_ret (n := 100) C Try.func25 rfl rfl rfl rfl false hF rfl rfl
  refine p_br (n := 100) C rfl (fun h4 => ?_) (fun h4 => ?_)
  · repeat' first
      | (refine p_br (n := 100) C rfl (fun h => ?_) (fun h => ?_) <;> first | (exact absurd h (by decide)) | skip)
      | exact p_ret (n := 100) C Try.func25 rfl rfl rfl rfl false hF rfl rfl
  refine p_br (n := 100) C rfl (fun h5 => ?_) (fun h5 => ?_)
  · repeat' first
      | (refine p_br (n := 100) C rfl (fun h => ?_) (fun h => ?_) <;> first | (exact absurd h (by decide)) | skip)
      | exact p_ret (n := 100) C Try.func25 rfl rfl rfl rfl false hF rfl rfl
  refine p_br (n := 100) C rfl (fun h6 => ?_) (fun h6 => ?_)
  · repeat' first
      | (refine p_br (n := 100) C rfl (fun h => ?_) (fun h => ?_) <;> first | (exact absurd h (by decide)) | skip)
      | exact p_ret (n := 100) C Try.func25 rfl rfl rfl rfl false hF rfl rfl
  refine p_br (n := 100) C rfl (fun h7 => ?_) (fun h7 => ?_)
  · repeat' first
      | (refine p_br (n := 100) C rfl (fun h => ?_) (fun h => ?_) <;> first | (exact absurd h (by decide)) | skip)
      | exact p_ret (n := 100) C Try.func25 rfl rfl rfl rfl false hF rfl rfl
  simp only [cond_false, decide_eq_false_iff_not, Bool.not_eq_false'] at h1 h2 h3 h4 h5 h6 h7
  refine p_loop (n := 100) C rfl ?_
  let I : Nat → St := fun j => ⟨[(7, i64 (j : Int)), (2, ends.sv 5 HoldD.cs)], [], 54, 0, [], []⟩
  refine p_weaken (st1 := I 0) id (p_inv I (fun j => j ≤ ends.l.length ∧ ∀ i, i < j → (ends.l.getD i default).slots.l.length ≤ 20) (fun j => ends.l.length - j) (fun j hj ih => ?_) 0 ⟨Nat.zero_le _, fun i hi => absurd hi (Nat.not_lt_zero _)⟩) (.inl rfl) rfl ⟨rfl, rfl, rfl, rfl, trivial⟩ trivial rfl rfl rfl trivial
  obtain ⟨hj, h0⟩ := hj
  refine p_br (n := 60) C rfl (fun h => ?_) (fun h => ?_)
  · have h : (j : Int) < (ends.l.length : Int) := of_decide_eq_true h
    refine p_need (n := 60) C rfl (show (0 : Int) ≤ (j : Int) ∧ (j : Int) < (ends.l.length : Int) from ⟨by omega, h⟩) ?_
    refine p_br (n := 60) C rfl (fun h8 => ?_) (fun h8 => ?_)
    · exact p_ret (n := 100) C Try.func25 rfl rfl rfl rfl false hF rfl rfl
    · simp only [decide_eq_false_iff_not, Int.toNat_natCast] at h8
      refine p_loop (n := 60) C rfl ?_
      refine p_weaken (st1 := I (j + 1)) id (ih (j + 1) ⟨by omega, fun i hi => ?_⟩ (by omega)) (.inl rfl) rfl ⟨?_, rfl, rfl, rfl, trivial⟩ trivial rfl rfl rfl trivial
      · rcases Nat.lt_succ_iff_lt_or_eq.1 hi with h' | h'
        · exact h0 i h'
        · subst h'; omega
      · show some (i64 _) = some (i64 _)
        rw [wrapN (by omega)]
  · have h : ¬ (j : Int) < (ends.l.length : Int) := of_decide_eq_false h
    have hj' : j = ends.l.length := by omega
    subst hj'
    refine p_ret (n := 60) C Try.func25 rfl rfl rfl rfl true (fun _ => ⟨by omega, hy h2, by omega, by omega, by omega, by omega, by omega, fun x hx => ?_⟩) rfl rfl
    obtain ⟨i, hi, rfl⟩ := List.getElem_of_mem hx
    have := h0 i hi
    simpa [List.getD_eq_getElem?_getD, hi] using this
end Go.Proofs.Ytneddobmlcbabaa
namespace Go.Proofs.Ytneddobmlcbabaa
open Go.SE
open Go.RowKit
set_option maxRecDepth 100000
set_option maxHeartbeats 4000000

def moreStep (out : List FreeD) (s : FreeD) : Except Int (List FreeD) :=
  if s.c < 0 then .error 1
  else if findV out s.nd s.dm < 0 then .error 3
  else if (masksV s.m (out.getD (findV out s.nd s.dm).toNat default).m : Int) > 0 then .error 4
  else if s.c > IntKind.i64.wrap (1048576 - (out.getD (findV out s.nd s.dm).toNat default).c) then .error 14
  else .ok (out.set (findV out s.nd s.dm).toNat { out.getD (findV out s.nd s.dm).toNat default with m := IntKind.u64.wrap ((out.getD (findV out s.nd s.dm).toNat default).m + s.m), c := IntKind.i64.wrap ((out.getD (findV out s.nd s.dm).toNat default).c + s.c) })
def moreV (out : List FreeD) (slots : List FreeD) : Except Int (List FreeD) := slots.foldlM moreStep out
def resL (A : Option Addr) (c : Nat) : Except Int (List FreeD) → SV
  | .ok l => .t [Sl.sv 4 FreeD.cs ⟨A, c, l⟩, i64 0]
  | .error e => .t [.v (.slice none 0 0), i64 e]
theorem resL_pure (A : Option Addr) (c : Nat) (r : Except Int (List FreeD)) : SE.pure (resL A c r) = true := by cases r <;> rfl
theorem findV_lt {l : List FreeD} {nd dm : Int} (h : ¬ findV l nd dm < 0) : 0 ≤ findV l nd dm ∧ findV l nd dm < (l.length : Int) := by
  unfold findV at *
  split at h
  · rename_i i hi
    have := (List.findIdx?_eq_some_iff_getElem.1 hi).1
    omega
  · omega
theorem setEl_set (out : List FreeD) (k : Nat) (f : FreeD) (l : List SV) (hl : l = f.cs) (hk : k < out.length) (i : Nat) : setEl k l (fun i => (out.getD i default).cs) i = ((out.set k f).getD i default).cs := by
  simp only [setEl]
  by_cases h : i = k
  · subst h
    simp [List.getD_eq_getElem?_getD, hk, hl]
  · rw [if_neg h]
    simp [List.getD_eq_getElem?_getD, List.getElem?_set_ne (Ne.symm h)]
theorem getD_set_same (out : List FreeD) (k : Nat) (f : FreeD) (hk : k < out.length) : (out.set k f).getD k default = f := by
  simp [List.getD_eq_getElem?_getD, hk]
theorem foldlM_take {l : List FreeD} {o : List FreeD} {j : Nat} (h : j < l.length) : (l.take (j + 1)).foldlM moreStep o = ((l.take j).foldlM moreStep o).bind fun x => moreStep x (l.getD j default) := by
  rw [List.take_add_one, List.foldlM_append]
  simp [List.getD_eq_getElem?_getD, h]
  rfl
theorem foldlM_err {l : List FreeD} {o : List FreeD} {j : Nat} {e : Int} (h : (l.take j).foldlM moreStep o = .error e) : l.foldlM moreStep o = .error e := by
  rw [← List.take_append_drop j l, List.foldlM_append, h]
  rfl
theorem moreR_ok (v : Sl FreeD) (s : Sl FreeD) (hl : v.l.length < 4294967296) (hl2 : s.l.length < 4294967296) : PureC Try.prog 26 [v.sv 4 FreeD.cs, s.sv 4 FreeD.cs] (Option Addr × Nat) (fun y => resL y.1 y.2 (moreV v.l s.l)) (fun _ => True) := by
  refine pureC_intro Try.func26 rfl rfl rfl (fun _ => resL_pure _ _ _) (Nat.le_of_ble_eq_true rfl) fun XC w0 => ?_
  refine p_need (n := 60) C rfl ⟨by simp only [maxLen]; omega, ?_⟩ ?_
  · show (0 + v.l.length) * 32 ≤ _
    omega
  refine p_loop (n := 60) C rfl ?_
  let I : Nat × List FreeD → St := fun x => ⟨[(7, i64 (x.1 : Int)), (6, .own 0), (1, s.sv 4 FreeD.cs)], [(0, .row 73 4 x.2.length fun i => (x.2.getD i default).cs)], 75, 1, [], []⟩
  refine p_weaken (st1 := I (0, v.l)) (fun _ => 1) (p_inv I (fun x => x.1 ≤ s.l.length ∧ x.2.length < 4294967296 ∧ (s.l.take x.1).foldlM moreStep v.l = .ok x.2) (fun x => s.l.length - x.1) (fun x hx ih => ?_) (0, v.l) ⟨Nat.zero_le _, hl, rfl⟩) (.inl rfl) rfl ⟨rfl, rfl, rfl, rfl, rfl, rfl, trivial⟩ ⟨⟨rfl, rfl, Nat.zero_add _, fun i hi => by simp [appEl]⟩, Nat.le_of_ble_eq_true rfl, trivial⟩ rfl rfl rfl trivial
  obtain ⟨j, out⟩ := x
  obtain ⟨hj, hol, hf⟩ := hx
  have err : ∀ {e : Int}, moreStep out (s.l.getD j default) = .error e → j < s.l.length → moreV v.l s.l = .error e := fun {e} h hlt => foldlM_err (j := j + 1) (by rw [foldlM_take hlt, hf]; exact h)
  refine p_br (n := 60) C rfl (fun h => ?_) (fun h => ?_)
  · have h : (j : Int) < (s.l.length : Int) := of_decide_eq_true h
    have hjn : j < s.l.length := by omega
    refine p_need (n := 60) C rfl (show (0 : Int) ≤ (j : Int) ∧ (j : Int) < (s.l.length : Int) from ⟨by omega, h⟩) ?_
    refine p_br (n := 60) C rfl (fun h1 => ?_) (fun h1 => ?_)
    · have h1 : (s.l.getD j default).c < 0 := of_decide_eq_true h1
      exact p_ret (n := 60) C Try.func26 rfl rfl rfl rfl (none, 0) trivial (by rw [err (by rw [moreStep, if_pos h1]) hjn]; rfl) (resL_pure _ _ _)
    · have h1 : ¬ (s.l.getD j default).c < 0 := of_decide_eq_false h1
      refine p_at (n := 60) C rfl ?_
      refine p_callB (res := fun _ => i64 (findV out (s.l.getD j default).nd (s.l.getD j default).dm)) C 0 rfl rfl rfl (fun A c => find_ok A _ c _ out rfl (fun i _ => rfl) (s.l.getD j default).nd (s.l.getD j default).dm hol) (fun _ => rfl) rfl fun _ _ => ?_
      refine p_br (n := 60) C rfl (fun h2 => ?_) (fun h2 => ?_)
      · have h2 := of_decide_eq_true h2
        exact p_ret (n := 60) C Try.func26 rfl rfl rfl rfl (none, 0) trivial (by rw [err (by rw [moreStep, if_neg h1, if_pos h2]) hjn]; rfl) (resL_pure _ _ _)
      · have h2 := of_decide_eq_false h2
        have hk := findV_lt h2
        generalize hkk : findV out (s.l.getD j default).nd (s.l.getD j default).dm = k at *
        refine p_at (n := 60) C rfl ?_
        refine p_draw C [] (.t 0 <| .t 1 <| .t 2 <| .t 3 <| .t 4 <| .t 5 <| .t 6 <| .o 7 <| .t 8 .d) (by kernel_rfl) (by kernel_rfl) ?_
        have hkn : k.toNat < out.length := by omega
        refine d_need C rfl ⟨hk, hk⟩ ?_
        refine d_need C rfl ⟨hkn, hkn⟩ ?_
        refine d_call C (masks_ok (s.l.getD j default).m (out.getD k.toNat default).m) rfl fun _ _ => ?_
        refine d_fin C rfl ?_
        refine p_br (n := 60) C rfl (fun h3 => ?_) (fun h3 => ?_)
        · have h3 : (masksV (s.l.getD j default).m (out.getD k.toNat default).m : Int) > 0 := of_decide_eq_true h3
          exact p_ret (n := 60) C Try.func26 rfl rfl rfl rfl (none, 0) trivial (by rw [err (by rw [moreStep, if_neg h1, hkk, if_neg h2, if_pos h3]) hjn]; rfl) (resL_pure _ _ _)
        · have h3 : ¬ (masksV (s.l.getD j default).m (out.getD k.toNat default).m : Int) > 0 := of_decide_eq_false h3
          refine p_at (n := 60) C rfl ?_
          refine p_draw C [] (.t 0 <| .t 1 <| .t 2 <| .t 3 <| .t 4 <| .t 5 <| .t 6 <| .t 7 <| .t 8 .d) (by kernel_rfl) (by kernel_rfl) ?_
          refine d_need C rfl ⟨hk, hk⟩ ?_
          refine d_need C rfl ⟨hkn, hkn⟩ ?_
          refine d_fin C rfl ?_
          refine p_br (n := 60) C rfl (fun h4 => ?_) (fun h4 => ?_)
          · have h4 : (s.l.getD j default).c > IntKind.i64.wrap (1048576 - (out.getD k.toNat default).c) := of_decide_eq_true h4
            exact p_ret (n := 60) C Try.func26 rfl rfl rfl rfl (none, 0) trivial (by rw [err (by rw [moreStep, if_neg h1, hkk, if_neg h2, if_neg h3, if_pos h4]) hjn]; rfl) (resL_pure _ _ _)
          · have h4 : ¬ (s.l.getD j default).c > IntKind.i64.wrap (1048576 - (out.getD k.toNat default).c) := of_decide_eq_false h4
            have hstep : moreStep out (s.l.getD j default) = .ok (out.set k.toNat { out.getD k.toNat default with m := IntKind.u64.wrap ((out.getD k.toNat default).m + (s.l.getD j default).m), c := IntKind.i64.wrap ((out.getD k.toNat default).c + (s.l.getD j default).c) }) := by
              rw [moreStep, if_neg h1, hkk, if_neg h2, if_neg h3, if_neg h4]
            refine p_at (n := 60) C rfl ?_
            refine p_draw C [0] (.t 0 <| .t 1 <| .t 2 <| .t 3 <| .t 7 <| .t 8 <| .o 4 <| .o 5 <| .o 6 <| .o 9 <| .o 10 <| .o 11 <| .o 12 .d) (by kernel_rfl) (by kernel_rfl) ?_
            refine d_need C rfl hk ?_
            refine d_need C rfl hkn ?_
            refine d_need C rfl hk ?_
            refine d_need C rfl hkn ?_
            refine d_fin C rfl ?_
            refine p_at (n := 1) C rfl ?_
            let f1 : FreeD := { out.getD k.toNat default with m := IntKind.u64.wrap ((out.getD k.toNat default).m + (s.l.getD j default).m) }
            let f2 : FreeD := { out.getD k.toNat default with m := IntKind.u64.wrap ((out.getD k.toNat default).m + (s.l.getD j default).m), c := IntKind.i64.wrap ((out.getD k.toNat default).c + (s.l.getD j default).c) }
            have hg1 : (out.set k.toNat f1).getD k.toNat default = f1 := getD_set_same out _ f1 hkn
            have hl1 : (out.set k.toNat f1).length = out.length := List.length_set
            have hkn1 : k.toNat < (out.set k.toNat f1).length := by rw [hl1]; exact hkn
            have hk1 : 0 ≤ k ∧ k < ((out.set k.toNat f1).length : Int) := by rw [hl1]; exact hk
            refine p_weaken (st1 := ⟨[(9, i64 k), (8, .p 1 0), (7, i64 (j : Int)), (6, .own 0), (1, s.sv 4 FreeD.cs)], [(1, .cells (s.l.getD j default).cs 49), (0, .row 73 4 (out.set k.toNat f1).length fun i => ((out.set k.toNat f1).getD i default).cs)], 75, 2, [], []⟩) id ?_ (.inl rfl) rfl ⟨rfl, rfl, rfl, rfl, rfl, rfl, rfl, rfl, rfl, rfl, trivial⟩
              ⟨⟨rfl, rfl, rfl⟩, Nat.le_of_ble_eq_true rfl, ⟨rfl, rfl, hl1.symm, fun i hi => setEl_set out k.toNat f1 _ rfl hkn i⟩, Nat.le_of_ble_eq_true rfl, trivial⟩ rfl rfl rfl trivial
            generalize hout1 : out.set k.toNat f1 = out1 at *
            refine p_at (n := 60) C rfl ?_
            refine p_draw C [0] (.t 0 <| .t 1 <| .t 2 <| .t 3 <| .t 7 <| .t 8 <| .o 4 <| .o 5 <| .o 6 <| .o 9 <| .o 10 <| .o 11 <| .o 12 .d) (by kernel_rfl) (by kernel_rfl) ?_
            refine d_need C rfl hk1 ?_
            refine d_need C rfl hkn1 ?_
            refine d_need C rfl hk1 ?_
            refine d_need C rfl hkn1 ?_
            refine d_fin C rfl ?_
            refine p_loop (n := 60) C rfl ?_
            have hset : out1.set k.toNat f2 = out.set k.toNat f2 := by rw [← hout1, List.set_set]
            have hl2 : (out.set k.toNat f2).length = out.length := List.length_set
            refine p_weaken (st1 := I (j + 1, out.set k.toNat f2)) id (ih (j + 1, out.set k.toNat f2) ⟨hjn, by show (out.set k.toNat f2).length < _; rw [hl2]; exact hol, by rw [foldlM_take hjn, hf]; exact hstep⟩ (by show _ - (j + 1) < _ - j; omega)) (.inl rfl) rfl ⟨?_, rfl, rfl, rfl, rfl, rfl, trivial⟩
              ⟨⟨rfl, rfl, by show out1.length = (out.set k.toNat f2).length; rw [hl1, hl2], fun i hi => ?_⟩, Nat.le_of_ble_eq_true rfl, trivial⟩ rfl rfl rfl trivial
            · show some (i64 _) = some (i64 _)
              rw [wrapN (by omega)]
            · show setEl k.toNat _ (fun i => (out1.getD i default).cs) i = _
              rw [← hset]
              exact setEl_set out1 k.toNat f2 _ (by rw [hg1]; rfl) hkn1 i
  · have h : ¬ (j : Int) < (s.l.length : Int) := of_decide_eq_false h
    have hj' : j = s.l.length := by omega
    subst hj'
    refine p_at (n := 60) C rfl ?_
    refine p_frz 0 rfl fun A c => ?_
    refine p_ret (n := 60) C Try.func26 rfl rfl rfl rfl (A, c) trivial ?_ (resL_pure _ _ _)
    rw [List.take_length] at hf
    rw [moreV, hf]; rfl
end Go.Proofs.Ytneddobmlcbabaa
namespace Go.Proofs.Ytneddobmlcbabaa
open Go.SE
open Go.RowKit
set_option maxRecDepth 100000
set_option maxHeartbeats 4000000

theorem rightN_ok : PureC Try.prog 46 [.v (.slice none 0 0)] Unit (fun _ => bo true) (fun _ => True) := by
  refine pureC_intro Try.func46 rfl rfl rfl (fun _ => rfl) (Nat.le_of_ble_eq_true rfl) fun XC w0 => ?_
  refine p_loop (n := 60) C rfl ?_
  refine p_br (n := 60) C rfl (fun h => absurd h (by decide)) (fun _ => ?_)
  exact p_ret (n := 60) C Try.func46 rfl rfl rfl rfl () trivial rfl rfl
def unitsP (u : UnitsD) : Prop := -1048576 ≤ u.g ∧ u.g ≤ 1048576 ∧ -1048576 ≤ u.c ∧ u.c ≤ 1048576
theorem few12N_ok (u : UnitsD) : PureC Try.prog 25 [.v (.slice none 0 0), .a u.cs, .v (.slice none 0 0)] Bool (fun y => bo y) (fun y => y = true → unitsP u) := by
  refine pureC_intro Try.func25 rfl rfl rfl (fun _ => rfl) (Nat.le_of_ble_eq_true rfl) fun XC w0 => ?_
  have hF : (false = true → unitsP u) := fun h => by cases h
  refine p_br (n := 60) C rfl (fun h => absurd h (by decide)) (fun _ => ?_)
  refine p_call (n := 100) C rightN_ok rfl rfl fun _ _ => ?_
  refine p_br (n := 100) C rfl (fun h => absurd h (by decide)) (fun _ => ?_)
  refine p_br (n := 100) C rfl (fun h => absurd h (by decide)) (fun _ => ?_)
  refine p_br (n := 100) C rfl (fun h4 => ?_) (fun h4 => ?_)
  · repeat' first
      | (refine p_br (n := 100) C rfl (fun h => ?_) (fun h => ?_) <;> first | (exact absurd h (by decide)) | skip)
      | exact p_ret (n := 100) C Try.func25 rfl rfl rfl rfl false hF rfl rfl
  refine p_br (n := 100) C rfl (fun h5 => ?_) (fun h5 => ?_)
  · repeat' first
      | (refine p_br (n := 100) C rfl (fun h => ?_) (fun h => ?_) <;> first | (exact absurd h (by decide)) | skip)
      | exact p_ret (n := 100) C Try.func25 rfl rfl rfl rfl false hF rfl rfl
  refine p_br (n := 100) C rfl (fun h6 => ?_) (fun h6 => ?_)
  · repeat' first
      | (refine p_br (n := 100) C rfl (fun h => ?_) (fun h => ?_) <;> first | (exact absurd h (by decide)) | skip)
      | exact p_ret (n := 100) C Try.func25 rfl rfl rfl rfl false hF rfl rfl
  refine p_br (n := 100) C rfl (fun h7 => ?_) (fun h7 => ?_)
  · repeat' first
      | (refine p_br (n := 100) C rfl (fun h => ?_) (fun h => ?_) <;> first | (exact absurd h (by decide)) | skip)
      | exact p_ret (n := 100) C Try.func25 rfl rfl rfl rfl false hF rfl rfl
  simp only [cond_false, decide_eq_false_iff_not] at h4 h5 h6 h7
  refine p_loop (n := 100) C rfl ?_
  refine p_br (n := 60) C rfl (fun h => absurd h (by decide)) (fun _ => ?_)
  exact p_ret (n := 60) C Try.func25 rfl rfl rfl rfl true (fun _ => ⟨by omega, by omega, by omega, by omega⟩) rfl rfl
theorem appEl_app {α : Type} (enc : α → List SV) (l l' : List α) (d : α) {j : Nat} :
    appEl l.length (fun j => enc (l.getD j d)) (fun j => enc (l'.getD j d)) j = enc ((l ++ l').getD j d) := by
  simp only [appEl]
  by_cases h : j < l.length
  · rw [if_pos h]
    congr 1
    simp [List.getD_eq_getElem?_getD, List.getElem?_append_left h]
  · rw [if_neg h]
    congr 1
    simp [List.getD_eq_getElem?_getD, List.getElem?_append_right (Nat.le_of_not_lt h)]
def allSlots (l : List HoldD) : List FreeD := l.flatMap fun h => h.slots.l
theorem allSlots_take {l : List HoldD} {j : Nat} (h : j < l.length) : allSlots (l.take (j + 1)) = allSlots (l.take j) ++ (l.getD j default).slots.l := by
  rw [allSlots, List.take_add_one, List.flatMap_append]
  simp [List.getD_eq_getElem?_getD, h, allSlots]
theorem allSlots_len {l : List HoldD} (h : ∀ x ∈ l, x.slots.l.length ≤ 20) : (allSlots l).length ≤ 20 * l.length := by
  induction l with
  | nil => simp [allSlots]
  | cons x r ih =>
    have h1 := ih fun y hy => h y (by simp [hy])
    have h2 := h x (by simp)
    simp only [allSlots, List.flatMap_cons, List.length_append, List.length_cons] at *
    omega
structure FewP (L : LookD) : Prop where
  left : L.left.l.length ≤ 20
  waits : L.waits.l.length ≤ 150
  running : L.running.l.length ≤ 150
  view : L.view.l.length ≤ 70
  right : RightP L.view.l
  ends : L.ends.l.length ≤ 20
  slots : ∀ h ∈ L.ends.l, h.slots.l.length ≤ 20
  units : ∀ u ∈ L.left.l, unitsP u
  more : ∃ l, moreV L.view.l (allSlots L.ends.l) = .ok l
theorem moreStep_err {out : List FreeD} {s : FreeD} {e : Int} (h : moreStep out s = .error e) : e ≠ 0 := by
  unfold moreStep at h
  repeat' split at h
  all_goals first | (injection h with h; omega) | cases h
theorem moreV_err {l : List FreeD} {out : List FreeD} {e : Int} (h : moreV out l = .error e) : e ≠ 0 := by
  induction l generalizing out with
  | nil => cases h
  | cons x r ih =>
    simp only [moreV, List.foldlM_cons] at h
    cases hx : moreStep out x with
    | error e' =>
      rw [hx] at h
      injection h with h
      subst h
      exact moreStep_err hx
    | ok o => rw [hx] at h; exact ih h
/-- the lengths that any slice's may be -/
structure Big (L : LookD) : Prop where
  view : L.view.l.length < 4294967296
  left : L.left.l.length < 4294967296
  ends : L.ends.l.length < 4294967296
  waits : L.waits.l.length < 4294967296
  running : L.running.l.length < 4294967296
theorem FewP.big {L : LookD} (h : FewP L) : Big L := ⟨by have := h.view; omega, by have := h.left; omega, by have := h.ends; omega, by have := h.waits; omega, by have := h.running; omega⟩
theorem few14_ok (L : LookD) : PureC Try.prog 8 [.a L.cs] Bool (fun y => bo y) (fun y => y = true → FewP L) := by
  refine pureC_intro Try.func8 rfl rfl rfl (fun _ => rfl) (Nat.le_of_ble_eq_true rfl) fun XC w0 => ?_
  have hF : (false = true → FewP L) := fun h => by cases h
  refine p_br (n := 60) C rfl (fun h1 => ?_) (fun h1 => ?_)
  · repeat' first
      | (refine p_br (n := 100) C rfl (fun h => ?_) (fun h => ?_) <;> first | (exact absurd h (by decide)) | skip)
      | exact p_ret (n := 100) C Try.func8 rfl rfl rfl rfl false hF rfl rfl
  refine p_br (n := 60) C rfl (fun h2 => ?_) (fun h2 => ?_)
  · repeat' first
      | (refine p_br (n := 100) C rfl (fun h => ?_) (fun h => ?_) <;> first | (exact absurd h (by decide)) | skip)
      | exact p_ret (n := 100) C Try.func8 rfl rfl rfl rfl false hF rfl rfl
  refine p_br (n := 60) C rfl (fun h3 => ?_) (fun h3 => ?_)
  · repeat' first
      | (refine p_br (n := 100) C rfl (fun h => ?_) (fun h => ?_) <;> first | (exact absurd h (by decide)) | skip)
      | exact p_ret (n := 100) C Try.func8 rfl rfl rfl rfl false hF rfl rfl
  refine p_call (n := 100) C (few12_ok L.view ⟨0, 0⟩ L.ends) rfl rfl fun y hy => ?_
  refine p_br (n := 60) C rfl (fun h4 => ?_) (fun h4 => ?_)
  · exact p_ret (n := 100) C Try.func8 rfl rfl rfl rfl false hF rfl rfl
  simp only [cond_false, decide_eq_false_iff_not, Bool.not_eq_false'] at h1 h2 h3 h4
  obtain ⟨q1, q2, q3, _, _, _, _, q8⟩ := hy h4
  refine p_loop (n := 100) C rfl ?_
  let I : Nat → St := fun j => ⟨[(3, i64 (j : Int)), (1, .p 0 0)], [(0, .cells L.cs 28)], 71, 1, [], []⟩
  refine p_weaken (st1 := I 0) id (p_inv I (fun j => j ≤ L.left.l.length ∧ ∀ i, i < j → unitsP (L.left.l.getD i default)) (fun j => L.left.l.length - j) (fun j hj ih => ?_) 0 ⟨Nat.zero_le _, fun i hi => absurd hi (Nat.not_lt_zero _)⟩) (.inl rfl) rfl ⟨rfl, rfl, rfl, rfl, trivial⟩ ⟨⟨rfl, rfl, rfl⟩, Nat.le_of_ble_eq_true rfl, trivial⟩ rfl rfl rfl trivial
  obtain ⟨hj, h0⟩ := hj
  refine p_br (n := 60) C rfl (fun h => ?_) (fun h => ?_)
  · have h : (j : Int) < (L.left.l.length : Int) := of_decide_eq_true h
    refine p_need (n := 60) C rfl (show (0 : Int) ≤ (j : Int) ∧ (j : Int) < (L.left.l.length : Int) from ⟨by omega, h⟩) ?_
    refine p_call (n := 100) C (few12N_ok (L.left.l.getD j default)) rfl rfl fun y hy => ?_
    refine p_br (n := 60) C rfl (fun h5 => ?_) (fun h5 => ?_)
    · exact p_ret (n := 100) C Try.func8 rfl rfl rfl rfl false hF rfl rfl
    · simp only [Bool.not_eq_false'] at h5
      refine p_loop (n := 60) C rfl ?_
      refine p_weaken (st1 := I (j + 1)) id (ih (j + 1) ⟨by omega, fun i hi => ?_⟩ (by omega)) (.inl rfl) rfl ⟨?_, rfl, rfl, rfl, trivial⟩ ⟨⟨rfl, rfl, rfl⟩, Nat.le_of_ble_eq_true rfl, trivial⟩ rfl rfl rfl trivial
      · rcases Nat.lt_succ_iff_lt_or_eq.1 hi with h' | h'
        · exact h0 i h'
        · subst h'; exact hy h5
      · show some (i64 _) = some (i64 _)
        rw [wrapN (by omega)]
  · have h : ¬ (j : Int) < (L.left.l.length : Int) := of_decide_eq_false h
    have hj' : j = L.left.l.length := by omega
    subst hj'
    have hu : ∀ u ∈ L.left.l, unitsP u := fun x hx => by
      obtain ⟨i, hi, rfl⟩ := List.getElem_of_mem hx
      have := h0 i hi
      simpa [List.getD_eq_getElem?_getD, hi] using this
    refine p_loop (n := 100) C rfl ?_
    refine p_nilT 4 (e := 49) (k := 4) (by decide) (Nat.le_of_ble_eq_true rfl) rfl ?_
    let I2 : Nat → St := fun j => ⟨[(5, i64 (j : Int)), (4, .own 1), (1, .p 0 0)], [(1, .row 49 4 (allSlots (L.ends.l.take j)).length fun i => ((allSlots (L.ends.l.take j)).getD i default).cs), (0, .cells L.cs 28)], 71, 2, [], []⟩
    refine p_weaken (st1 := I2 0) id (p_inv I2 (fun j => j ≤ L.ends.l.length) (fun j => L.ends.l.length - j) (fun j hj ih => ?_) 0 (Nat.zero_le _)) (.inl rfl) rfl ⟨rfl, rfl, rfl, rfl, rfl, rfl, trivial⟩ ⟨⟨rfl, rfl, rfl, fun i hi => absurd hi (Nat.not_lt_zero _)⟩, Nat.le_of_ble_eq_true rfl, ⟨rfl, rfl, rfl⟩, Nat.le_of_ble_eq_true rfl, trivial⟩ rfl rfl rfl trivial
    refine p_br (n := 60) C rfl (fun h => ?_) (fun h => ?_)
    · have h : (j : Int) < (L.ends.l.length : Int) := of_decide_eq_true h
      have hjn : j < L.ends.l.length := by omega
      have hlen : (allSlots (L.ends.l.take j)).length ≤ 20 * j := Nat.le_trans (allSlots_len fun x hx => q8 x (List.mem_of_mem_take hx)) (by simp; omega)
      have hsl : (L.ends.l.getD j default).slots.l.length ≤ 20 := q8 _ (by simp [List.getD_eq_getElem?_getD, hjn])
      refine p_need (n := 60) C rfl (show (0 : Int) ≤ (j : Int) ∧ (j : Int) < (L.ends.l.length : Int) from ⟨by omega, h⟩) ?_
      refine p_need (n := 60) C rfl (show (allSlots (L.ends.l.take j)).length + (L.ends.l.getD j default).slots.l.length ≤ maxLen ∧ ((allSlots (L.ends.l.take j)).length + (L.ends.l.getD j default).slots.l.length) * 32 ≤ 140737488355328 from ⟨by simp only [maxLen]; omega, by omega⟩) ?_
      refine p_loop (n := 60) C rfl ?_
      refine p_weaken (st1 := I2 (j + 1)) (fun i => if i = 1 then 2 else i) (ih (j + 1) hjn (by omega)) (.inl rfl) rfl ⟨?_, rfl, rfl, rfl, rfl, rfl, trivial⟩ ⟨⟨rfl, rfl, ?_, fun i hi => ?_⟩, Nat.le_of_ble_eq_true rfl, ⟨rfl, rfl, rfl⟩, Nat.le_of_ble_eq_true rfl, trivial⟩ rfl rfl rfl trivial
      · show some (i64 _) = some (i64 _)
        rw [wrapN (by omega)]
      · show (allSlots (L.ends.l.take j)).length + (L.ends.l.getD j default).slots.l.length = _
        rw [allSlots_take hjn, List.length_append]
      · rw [allSlots_take hjn]
        exact appEl_app FreeD.cs _ _ default
    · have h : ¬ (j : Int) < (L.ends.l.length : Int) := of_decide_eq_false h
      have hj' : j = L.ends.l.length := by omega
      subst hj'
      have hlen : (allSlots (L.ends.l.take L.ends.l.length)).length ≤ 20 * L.ends.l.length := Nat.le_trans (allSlots_len fun x hx => q8 x (List.mem_of_mem_take hx)) (by simp)
      refine p_at (n := 60) C rfl ?_
      refine p_frz 1 rfl fun A c => ?_
      refine p_call (n := 60) C (moreR_ok L.view ⟨A, c, allSlots (L.ends.l.take L.ends.l.length)⟩ (by omega) (by show (allSlots (L.ends.l.take L.ends.l.length)).length < _; omega)) rfl rfl fun y _ => ?_
      rw [List.take_length]
      cases hm : moreV L.view.l (allSlots L.ends.l) with
      | error e =>
        have he := moreV_err hm
        refine p_ret (n := 60) C Try.func8 rfl rfl rfl rfl (e == 0) (fun h => ?_) rfl rfl
        simp [he] at h
      | ok l =>
        exact p_ret (n := 60) C Try.func8 rfl rfl rfl rfl true (fun _ => ⟨by omega, by omega, by omega, q1, q2, q3, q8, hu, l, hm⟩) rfl rfl
end Go.Proofs.Ytneddobmlcbabaa
namespace Go.Proofs.Ytneddobmlcbabaa
open Go.SE
open Go.RowKit
set_option maxRecDepth 100000
set_option maxHeartbeats 4000000

structure WantD where
  queue : Int
  members : Int
  sh : ShapeD
  deriving Inhabited
def WantD.cs (w : WantD) : List SV := [i64 w.queue, i64 w.members, i64 w.sh.g, i64 w.sh.c, i64 w.sh.mn, i64 w.sh.mx]
def isHead (h : Int) (w : WaitD) : Bool := h != 0 && (w.job.id == h)
def wantOf (w : WaitD) : WantD := ⟨w.job.queue, w.job.sh.mn, w.job.sh⟩
def headV (h : Int) (l : List WaitD) : Option WantD := (l.find? (isHead h)).map wantOf
def headW (o : Option WantD) : WantD := o.getD ⟨0, 0, ⟨0, 0, 0, 0⟩⟩
theorem head_ok (L : LookD) (hB : Big L) : PureC Try.prog 12 [.a L.cs] Unit (fun _ => .t [.a (headW (headV L.head L.waits.l)).cs, bo (headV L.head L.waits.l).isSome]) (fun _ => True) := by
  refine pureC_intro Try.func12 rfl rfl rfl (fun _ => rfl) (Nat.le_of_ble_eq_true rfl) fun XC w0 => ?_
  have hw := hB.waits
  refine p_loop (n := 60) C rfl ?_
  let I : Nat → St := fun j => ⟨[(10, i64 (j : Int)), (9, i64 (L.waits.l.length : Int)), (8, L.waits.sv 10 WaitD.cs), (1, .p 0 0), (2, .p 1 0)], [(1, .cells [i64 0, i64 0, i64 0, i64 0, i64 0, i64 0] 53), (0, .cells L.cs 28)], 36, 2, [], []⟩
  refine p_weaken (st1 := I 0) id (p_inv I (fun j => j ≤ L.waits.l.length ∧ ∀ i, i < j → isHead L.head (L.waits.l.getD i default) = false) (fun j => L.waits.l.length - j) (fun j hj ih => ?_) 0 ⟨Nat.zero_le _, fun i hi => absurd hi (Nat.not_lt_zero _)⟩) (.inl rfl) rfl ⟨rfl, rfl, rfl, rfl, rfl, rfl, rfl, rfl, rfl, rfl, trivial⟩ ⟨⟨rfl, rfl, rfl⟩, Nat.le_of_ble_eq_true rfl, ⟨rfl, rfl, rfl⟩, Nat.le_of_ble_eq_true rfl, trivial⟩ rfl rfl rfl trivial
  obtain ⟨hj, h0⟩ := hj
  refine p_br (n := 60) C rfl (fun h => ?_) (fun h => ?_)
  · have h : (j : Int) < (L.waits.l.length : Int) := of_decide_eq_true h
    have hjn : j < L.waits.l.length := by omega
    have next : isHead L.head (L.waits.l.getD j default) = false → ∀ i, i < j + 1 → isHead L.head (L.waits.l.getD i default) = false := fun h2 i hi => by
      rcases Nat.lt_succ_iff_lt_or_eq.1 hi with h' | h'
      · exact h0 i h'
      · subst h'; exact h2
    refine p_need (n := 60) C rfl (show (0 : Int) ≤ (j : Int) ∧ (j : Int) < (L.waits.l.length : Int) from ⟨by omega, h⟩) ?_
    refine p_br (n := 60) C rfl (fun h1 => ?_) (fun h1 => ?_)
    · refine p_br (n := 60) C rfl (fun h2 => ?_) (fun h2 => ?_)
      · have hy : isHead L.head (L.waits.l.getD j default) = true := by rw [isHead, h1]; exact h2
        have hv : headV L.head L.waits.l = some (wantOf (L.waits.l.getD j default)) := by
          rw [headV]
          have : L.waits.l.find? (isHead L.head) = some (L.waits.l.getD j default) := by
            rw [List.find?_eq_some_iff_getElem]
            refine ⟨hy, j, hjn, by simp [List.getD_eq_getElem?_getD, hjn], fun i hi => ?_⟩
            have := h0 i hi
            simpa [List.getD_eq_getElem?_getD, show i < L.waits.l.length by omega] using this
          rw [this]; rfl
        exact p_ret (n := 60) C Try.func12 rfl rfl rfl rfl () trivial (by rw [hv]; rfl) rfl
      · have hn : isHead L.head (L.waits.l.getD j default) = false := by rw [isHead, h1]; exact h2
        refine p_loop (n := 60) C rfl ?_
        refine p_weaken (st1 := I (j + 1)) id (ih (j + 1) ⟨hjn, next hn⟩ (by omega)) (.inl rfl) rfl ⟨?_, rfl, rfl, rfl, rfl, rfl, rfl, rfl, rfl, rfl, trivial⟩ ⟨⟨rfl, rfl, rfl⟩, Nat.le_of_ble_eq_true rfl, ⟨rfl, rfl, rfl⟩, Nat.le_of_ble_eq_true rfl, trivial⟩ rfl rfl rfl trivial
        show some (i64 _) = some (i64 _)
        rw [wrapN (by omega)]
    · have hn : isHead L.head (L.waits.l.getD j default) = false := by rw [isHead, h1]; rfl
      refine p_br (n := 60) C rfl (fun h => absurd h (by decide)) (fun _ => ?_)
      refine p_loop (n := 60) C rfl ?_
      refine p_weaken (st1 := I (j + 1)) id (ih (j + 1) ⟨hjn, next hn⟩ (by omega)) (.inl rfl) rfl ⟨?_, rfl, rfl, rfl, rfl, rfl, rfl, rfl, rfl, rfl, trivial⟩ ⟨⟨rfl, rfl, rfl⟩, Nat.le_of_ble_eq_true rfl, ⟨rfl, rfl, rfl⟩, Nat.le_of_ble_eq_true rfl, trivial⟩ rfl rfl rfl trivial
      show some (i64 _) = some (i64 _)
      rw [wrapN (by omega)]
  · have h : ¬ (j : Int) < (L.waits.l.length : Int) := of_decide_eq_false h
    have hj' : j = L.waits.l.length := by omega
    subst hj'
    have hv : headV L.head L.waits.l = none := by
      have : L.waits.l.find? (isHead L.head) = none := by
        rw [List.find?_eq_none]
        intro x hx
        obtain ⟨i, hi, rfl⟩ := List.getElem_of_mem hx
        have := h0 i hi
        simpa [List.getD_eq_getElem?_getD, hi] using this
      rw [headV, this]; rfl
    exact p_ret (n := 60) C Try.func12 rfl rfl rfl rfl () trivial (by rw [hv]; rfl) rfl
end Go.Proofs.Ytneddobmlcbabaa
namespace Go.Proofs.Ytneddobmlcbabaa
open Go.SE
open Go.RowKit
set_option maxRecDepth 100000
set_option maxHeartbeats 4000000

theorem chk0 {s : ShapeD} (h : s.chk = 0) : 0 ≤ s.g ∧ s.g ≤ 16 ∧ 0 ≤ s.c ∧ s.c ≤ 1024 ∧ 1 ≤ s.mn ∧ s.mn ≤ s.mx ∧ 1 ≤ s.mx ∧ s.mx ≤ 16 ∧ ¬ (s.g = 0 ∧ s.c = 0) := by
  unfold ShapeD.chk checkV at h
  split at h
  · assumption
  · cases h
theorem leftE0 {L : LookD} {j : JobD} (h : leftE L j = 0) : j.sh.chk = 0 ∧ 0 ≤ j.queue ∧ j.queue < (L.left.l.length : Int) := by
  unfold leftE at h
  split at h
  · rename_i h1; exact absurd h h1
  · rename_i h1
    split at h
    · cases h
    · rename_i h2; exact ⟨Decidable.not_not.1 h1, by omega, by omega⟩
/-- the first of n, n - 1, .. (k of them) that may be -/
def mostFrom (v : List FreeD) (s : ShapeD) (u : UnitsD) : Nat → Int → Option Int
  | 0, _ => none
  | k + 1, n => if canV v s n u = 0 then some n else mostFrom v s u k (n - 1)
def PlaceT := List FreeD → ShapeD → Int → Except Int (List FreeD)
def PlaceC (pv : PlaceT) : Prop := ∀ (v : Sl FreeD) (s : ShapeD) (n : Int), v.l.length < 4294967296 → PureC Try.prog 30 [v.sv 4 FreeD.cs, .a s.cs, i64 n] (Option Addr × Nat) (fun y => resL y.1 y.2 (pv v.l s n)) (fun _ => True)
def mostV (pv : PlaceT) (L : LookD) (j : JobD) : Except Int (List FreeD) :=
  if leftE L j ≠ 0 then .error (leftE L j)
  else if canV L.view.l j.sh j.sh.mn (leftU L j) ≠ 0 then .error (canV L.view.l j.sh j.sh.mn (leftU L j))
  else match mostFrom L.view.l j.sh (leftU L j) (j.sh.mx - j.sh.mn + 1).toNat j.sh.mx with
    | some n => pv L.view.l j.sh n
    | none => .error 7
theorem wrapM {n : Int} (h : -9223372036854775807 ≤ n) (h2 : n ≤ 9223372036854775807) : IntKind.i64.wrap (n - 1) = n - 1 := by
  simp [IntKind.wrap, IntKind.bits, IntKind.signed]; omega
theorem most_ok {pv : PlaceT} (HP : PlaceC pv) (L : LookD) (j : JobD) (hB : Big L) : PureC Try.prog 9 [.a L.cs, .a j.cs] (Option Addr × Nat) (fun y => resL y.1 y.2 (mostV pv L j)) (fun _ => True) := by
  refine pureC_intro Try.func9 rfl rfl rfl (fun _ => resL_pure _ _ _) (Nat.le_of_ble_eq_true rfl) fun XC w0 => ?_
  have hv := hB.view
  refine p_call (n := 60) C (left_ok L j) rfl rfl fun _ _ => ?_
  refine p_br (n := 60) C rfl (fun h1 => ?_) (fun h1 => ?_)
  · have h1' : leftE L j ≠ 0 := by simpa using h1
    exact p_ret (n := 60) C Try.func9 rfl rfl rfl rfl (none, 0) trivial (by rw [mostV, if_pos h1']; rfl) (resL_pure _ _ _)
  have h1' : leftE L j = 0 := by simpa using h1
  have h1n : ¬ leftE L j ≠ 0 := fun h => h h1'
  obtain ⟨hc, hq1, hq2⟩ := leftE0 h1'
  have hck := chk0 hc
  refine p_call (n := 60) C (can_ok L j.sh j.sh.mn (leftU L j) hv) rfl rfl fun _ _ => ?_
  refine p_br (n := 60) C rfl (fun h2 => ?_) (fun h2 => ?_)
  · have h2' : canV L.view.l j.sh j.sh.mn (leftU L j) ≠ 0 := by simpa using h2
    exact p_ret (n := 60) C Try.func9 rfl rfl rfl rfl (none, 0) trivial (by rw [mostV, if_neg h1n, if_pos h2']; rfl) (resL_pure _ _ _)
  have h2' : canV L.view.l j.sh j.sh.mn (leftU L j) = 0 := by simpa using h2
  have h2n : ¬ canV L.view.l j.sh j.sh.mn (leftU L j) ≠ 0 := fun h => h h2'
  have hmv : mostV pv L j = match mostFrom L.view.l j.sh (leftU L j) (j.sh.mx - j.sh.mn + 1).toNat j.sh.mx with
    | some n => pv L.view.l j.sh n
    | none => .error 7 := by rw [mostV, if_neg h1n, if_neg h2n]
  refine p_at (n := 10) C rfl ?_
  refine p_inline C Try.func29 rfl rfl rfl rfl (Nat.le_of_ble_eq_true rfl) fun ao hao => ?_
  refine p_pop (n := 60) C Try.func29 rfl rfl rfl rfl rfl rfl rfl rfl hao rfl ?_
  refine p_at (n := 60) C rfl ?_
  refine p_range C rfl rfl Try.func50 rfl rfl (Nat.le_of_ble_eq_true rfl) fun ai l r hL hrs hrp => ?_
  refine p_loop (n := 60) C rfl ?_
  let I : Int × Loop → St := fun x => ⟨[(4, i64 x.1), (2, .p 6 0), (1, .p 5 0), (0, .y 8)], [(8, .lp l x.2), (7, .mark), (6, .cells [i64 j.sh.mn] 3), (5, .cells [i64 j.sh.mx] 3), (4, .cells (leftU L j).cs 41), (3, .cells [i64 0] 36), (2, .cells [.v (.slice none 0 0)] 35), (1, .cells j.cs 32), (0, .cells L.cs 28)], 15, 9, [], [⟨ai, [(2, .p 0 0), (3, .p 1 0), (4, .p 2 0), (5, .p 3 0), (6, .p 4 0)], 53, [7]⟩]⟩
  refine p_weaken (st1 := I (j.sh.mx, r)) id (p_inv I (fun x => j.sh.mn - 1 ≤ x.1 ∧ x.1 ≤ j.sh.mx ∧ mostFrom L.view.l j.sh (leftU L j) (x.1 - j.sh.mn + 1).toNat x.1 = mostFrom L.view.l j.sh (leftU L j) (j.sh.mx - j.sh.mn + 1).toNat j.sh.mx ∧ LoopIs x.2 9 ai.tmps _ _ _ ∧ x.2.state = .ready ∧ x.2.pending = none) (fun x => (x.1 - j.sh.mn + 1).toNat) (fun x hx ih => ?_) (j.sh.mx, r) ⟨by show _ ≤ j.sh.mx; omega, Int.le_refl _, rfl, hL, hrs, hrp⟩) (.inl rfl) rfl ⟨rfl, rfl, rfl, rfl, rfl, rfl, rfl, rfl, trivial⟩
    ⟨⟨rfl, rfl⟩, Nat.le_of_ble_eq_true rfl, trivial, Nat.le_of_ble_eq_true rfl, ⟨rfl, rfl, rfl⟩, Nat.le_of_ble_eq_true rfl, ⟨rfl, rfl, rfl⟩, Nat.le_of_ble_eq_true rfl, ⟨rfl, rfl, rfl⟩, Nat.le_of_ble_eq_true rfl, ⟨rfl, rfl, rfl⟩, Nat.le_of_ble_eq_true rfl, ⟨rfl, rfl, rfl⟩, Nat.le_of_ble_eq_true rfl, ⟨rfl, rfl, rfl⟩, Nat.le_of_ble_eq_true rfl, ⟨rfl, rfl, rfl⟩, Nat.le_of_ble_eq_true rfl, trivial⟩ rfl rfl rfl ⟨⟨rfl, rfl, rfl, rfl, rfl, rfl, rfl, rfl, rfl, rfl, rfl, rfl, rfl, rfl, trivial⟩, trivial⟩
  obtain ⟨n, r⟩ := x
  obtain ⟨hx1, hx2, hx3, hL, hrs, hrp⟩ := hx
  have hx1 : j.sh.mn - 1 ≤ n := hx1
  have hx2 : n ≤ j.sh.mx := hx2
  have hx3 : mostFrom L.view.l j.sh (leftU L j) (n - j.sh.mn + 1).toNat n = mostFrom L.view.l j.sh (leftU L j) (j.sh.mx - j.sh.mn + 1).toNat j.sh.mx := hx3
  refine p_br (n := 60) C rfl (fun h3 => ?_) (fun h3 => ?_)
  · have h3 : n ≥ j.sh.mn := of_decide_eq_true h3
    obtain ⟨k, hk⟩ : ∃ k : Nat, (n - j.sh.mn + 1).toNat = k + 1 := ⟨(n - j.sh.mn).toNat, by omega⟩
    have hk' : (n - 1 - j.sh.mn + 1).toNat = k := by omega
    rw [hk] at hx3
    refine p_at (n := 60) C rfl ?_
    refine p_yield C hL rfl rfl rfl rfl rfl fun bi hbi => ?_
    refine p_at (n := 60) C rfl ?_
    refine p_begin 8 rfl hrs fun r2 hr2s hr2p hL2 => ?_
    refine p_call (n := 60) C (can_ok L j.sh n (leftU L j) hv) rfl rfl fun _ _ => ?_
    refine p_br (n := 60) C rfl (fun h4 => ?_) (fun h4 => ?_)
    · have h4 : canV L.view.l j.sh n (leftU L j) = 0 := by simpa using h4
      have hm : mostV pv L j = pv L.view.l j.sh n := by rw [hmv, ← hx3, mostFrom, if_pos h4]
      refine p_call (n := 60) C (HP L.view j.sh n hv) rfl rfl fun y _ => ?_
      rw [hm]
      cases hpv : pv L.view.l j.sh n with
      | error e =>
        refine p_at (n := 60) C rfl ?_
        refine p_rend 8 rfl rfl rfl rfl hbi rfl fun r3 hr3s hr3p hL3 => ?_
        refine p_br (n := 60) C rfl (fun _ => ?_) (fun h => absurd h (by decide))
        refine p_popr (n := 60) C 8 Try.func50 rfl rfl rfl rfl rfl rfl rfl rfl (by rw [hr3s]; decide) hr3p ?_
        exact p_ret (n := 60) C Try.func9 rfl rfl rfl rfl (none, 0) trivial rfl (resL_pure _ _ _)
      | ok lst =>
        refine p_at (n := 60) C rfl ?_
        refine p_rend 8 rfl rfl rfl rfl hbi rfl fun r3 hr3s hr3p hL3 => ?_
        refine p_br (n := 60) C rfl (fun _ => ?_) (fun h => absurd h (by decide))
        refine p_popr (n := 60) C 8 Try.func50 rfl rfl rfl rfl rfl rfl rfl rfl (by rw [hr3s]; decide) hr3p ?_
        exact p_ret (n := 60) C Try.func9 rfl rfl rfl rfl (y.1, y.2) trivial rfl (resL_pure _ _ _)
    · have h4 : ¬ canV L.view.l j.sh n (leftU L j) = 0 := by simpa using h4
      refine p_at (n := 60) C rfl ?_
      refine p_rend 8 rfl rfl rfl rfl hbi rfl fun r3 hr3s hr3p hL3 => ?_
      refine p_br (n := 60) C rfl (fun h => absurd h (by decide)) (fun _ => ?_)
      refine p_loop (n := 60) C rfl ?_
      refine p_weaken (st1 := I (n - 1, r3)) id (ih (n - 1, r3) ⟨by show _ ≤ n - 1; omega, by show n - 1 ≤ _; omega, ?_, hL3 (hL2 hL), hr3s, hr3p⟩ (by show (n - 1 - j.sh.mn + 1).toNat < (n - j.sh.mn + 1).toNat; omega)) (.inl rfl) rfl ⟨?_, rfl, rfl, rfl, rfl, rfl, rfl, rfl, trivial⟩
        ⟨⟨rfl, rfl⟩, Nat.le_of_ble_eq_true rfl, trivial, Nat.le_of_ble_eq_true rfl, ⟨rfl, rfl, rfl⟩, Nat.le_of_ble_eq_true rfl, ⟨rfl, rfl, rfl⟩, Nat.le_of_ble_eq_true rfl, ⟨rfl, rfl, rfl⟩, Nat.le_of_ble_eq_true rfl, ⟨rfl, rfl, rfl⟩, Nat.le_of_ble_eq_true rfl, ⟨rfl, rfl, rfl⟩, Nat.le_of_ble_eq_true rfl, ⟨rfl, rfl, rfl⟩, Nat.le_of_ble_eq_true rfl, ⟨rfl, rfl, rfl⟩, Nat.le_of_ble_eq_true rfl, trivial⟩ rfl rfl rfl ⟨⟨rfl, rfl, rfl, rfl, rfl, rfl, rfl, rfl, rfl, rfl, rfl, rfl, rfl, rfl, trivial⟩, trivial⟩
      · show mostFrom L.view.l j.sh (leftU L j) (n - 1 - j.sh.mn + 1).toNat (n - 1) = _
        rw [hk', ← hx3, mostFrom, if_neg h4]
      · show some (i64 _) = some (i64 _)
        rw [wrapM (by omega) (by omega)]
  · have h3 : ¬ n ≥ j.sh.mn := of_decide_eq_false h3
    have hk : (n - j.sh.mn + 1).toNat = 0 := by omega
    rw [hk] at hx3
    have hm : mostV pv L j = .error 7 := by rw [hmv, ← hx3, mostFrom]
    refine p_popr (n := 60) C 8 Try.func50 rfl rfl rfl rfl rfl rfl rfl rfl (by show r.state ≠ _; rw [hrs]; decide) hrp ?_
    exact p_ret (n := 60) C Try.func9 rfl rfl rfl rfl (none, 0) trivial (by rw [hm]; rfl) (resL_pure _ _ _)
end Go.Proofs.Ytneddobmlcbabaa
namespace Go.Proofs.Ytneddobmlcbabaa
open Go.SE
open Go.RowKit
set_option maxRecDepth 100000
set_option maxHeartbeats 4000000

def SafeT := Int → List FreeD → UnitsD → List HoldD → WantD → Int → Int → Int → List FreeD → Bool × Int
/-- what is asked of the slices that go into a promise -/
structure Small (v : List FreeD) (es : List HoldD) (sl : List FreeD) : Prop where
  view : v.length ≤ 70
  ends : es.length ≤ 20
  each : ∀ h : HoldD, h ∈ es → h.slots.l.length ≤ 20
  slots : sl.length ≤ 20
def SafeC (sf : SafeT) : Prop := ∀ (now prom : Int) (v : Sl FreeD) (u : UnitsD) (ends : Sl HoldD) (w : WantD) (h : HoldD), Small v.l ends.l h.slots.l →
  PureC Try.prog 14 [i64 now, v.sv 4 FreeD.cs, .a u.cs, ends.sv 5 HoldD.cs, .a w.cs, i64 prom, .a h.cs] Unit (fun _ => .t [bo (sf now v.l u ends.l w prom h.queue h.until_ h.slots.l).1, i64 (sf now v.l u ends.l w prom h.queue h.until_ h.slots.l).2]) (fun _ => True)
def safeV (sf : SafeT) (L : LookD) (id q u : Int) (slots : List FreeD) : Bool :=
  match headV L.head L.waits.l with
  | none => true
  | some w => if id = L.head then true else if w.queue < 0 ∨ w.queue ≥ L.left.l.length then false else (sf L.now L.view.l (L.left.l.getD w.queue.toNat default) L.ends.l w L.promise q u slots).1
theorem safe_ok {sf : SafeT} (HS : SafeC sf) (L : LookD) (h : HoldD) (hB : Big L) (hS : Small L.view.l L.ends.l h.slots.l) : PureC Try.prog 32 [.a L.cs, .a h.cs] Unit (fun _ => bo (safeV sf L h.id h.queue h.until_ h.slots.l)) (fun _ => True) := by
  refine pureC_intro Try.func32 rfl rfl rfl (fun _ => rfl) (Nat.le_of_ble_eq_true rfl) fun XC w0 => ?_
  refine p_call (n := 60) C (head_ok L hB) rfl rfl fun _ _ => ?_
  cases hh : headV L.head L.waits.l with
  | none =>
    refine p_br (n := 60) C rfl (fun _ => ?_) (fun h => absurd h (by decide))
    refine p_br (n := 60) C rfl (fun _ => ?_) (fun h => absurd h (by decide))
    exact p_ret (n := 60) C Try.func32 rfl rfl rfl rfl () trivial (by rw [safeV, hh]; rfl) rfl
  | some w =>
    refine p_br (n := 60) C rfl (fun h => absurd h (by simp)) (fun _ => ?_)
    refine p_br (n := 60) C rfl (fun h1 => ?_) (fun h1 => ?_)
    · have h1 : h.id = L.head := by simpa using h1
      exact p_ret (n := 60) C Try.func32 rfl rfl rfl rfl () trivial (by simp only [safeV, hh, if_pos h1]; rfl) rfl
    · have h1 : ¬ h.id = L.head := by simpa using h1
      refine p_br (n := 60) C rfl (fun h2 => ?_) (fun h2 => ?_)
      · have h2 : w.queue < 0 := of_decide_eq_true h2
        refine p_br (n := 60) C rfl (fun _ => ?_) (fun h => absurd h (by decide))
        exact p_ret (n := 60) C Try.func32 rfl rfl rfl rfl () trivial (by simp only [safeV, hh, if_neg h1, if_pos (Or.inl h2)]; rfl) rfl
      · have h2 : ¬ w.queue < 0 := of_decide_eq_false h2
        refine p_br (n := 60) C rfl (fun h3 => ?_) (fun h3 => ?_)
        · have h3 : w.queue ≥ (L.left.l.length : Int) := of_decide_eq_true h3
          exact p_ret (n := 60) C Try.func32 rfl rfl rfl rfl () trivial (by simp only [safeV, hh, if_neg h1, if_pos (Or.inr h3)]; rfl) rfl
        · have h3 : ¬ w.queue ≥ (L.left.l.length : Int) := of_decide_eq_false h3
          refine p_at (n := 60) C rfl ?_
          refine p_draw C [] (.t 0 <| .t 1 <| .t 2 <| .t 3 <| .t 4 <| .t 5 <| .t 6 <| .t 7 <| .t 8 <| .t 9 <| .t 10 <| .t 11 <| .t 12 <| .t 13 <| .t 14 <| .t 15 <| .o 16 <| .t 17 <| .t 18 <| .t 19 <| .t 20 <| .t 21 .d) (by kernel_rfl) (by kernel_rfl) ?_
          have hq : (0 : Int) ≤ w.queue ∧ w.queue < (L.left.l.length : Int) := ⟨by omega, by omega⟩
          refine d_need C rfl ⟨hq, hq⟩ ?_
          refine d_call C (HS L.now L.promise L.view (L.left.l.getD w.queue.toNat default) L.ends w h hS) rfl fun _ _ => ?_
          refine d_fin C rfl ?_
          exact p_ret (n := 60) C Try.func32 rfl rfl rfl rfl () trivial (by simp only [safeV, hh, if_neg h1, if_neg (show ¬ (w.queue < 0 ∨ w.queue ≥ (L.left.l.length : Int)) by omega)]; rfl) rfl
end Go.Proofs.Ytneddobmlcbabaa
