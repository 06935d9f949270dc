/- A walk by symbols over the given program, a part of it: lemmas alone; what is claimed stands in the last text. No conditions of its own. -/
import Derived.Test.YtneddobmlcbabaaWaK
import Derived.Test.YtneddobmlcbabaaWaD
set_option linter.unusedVariables false
set_option linter.unusedSimpArgs false
namespace Go.Proofs.Ytneddobmlcbabaa
open Go.SE
open Go.RowKit
open Go.PS
set_option maxRecDepth 100000
set_option maxHeartbeats 4000000

/-- the store in which holds are sorted -/
def hOb (L : List HoldD) : List (Nat × Ob) := [(0, .row 44 5 L.length fun j => (L.getD j default).cs)]
def ltH (x y : HoldD) : Bool := decide (cmpV x.until_ y.until_ < 0)
theorem ltH_r (x y : HoldD) : ltH x y = decide (x.until_ < y.until_) := by
  unfold ltH cmpV
  split
  · rename_i h; simp [h]
  · split
    · rename_i h h2; simp [h]
    · rename_i h h2; simp [h]
theorem cmpH_ok (x y : HoldD) : PureC Try.prog 84 [.a x.cs, .a y.cs] Unit (fun _ => i64 (cmpV x.until_ y.until_)) (fun _ => True) := by
  refine pureC_intro Try.func84 rfl rfl rfl (fun _ => rfl) (Nat.le_of_ble_eq_true rfl) fun XC w0 => ?_
  refine p_call (n := 60) C (cmp_ok x.until_ y.until_) rfl rfl fun _ _ => ?_
  exact p_ret (n := 60) C Try.func84 rfl rfl rfl rfl () trivial rfl rfl
theorem swapL_rowH (L : List HoldD) {i j : Nat} (hi : i < L.length) (hj : j < L.length) (k : Nat) : setEl j (L.getD i default).cs (setEl i (L.getD j default).cs fun j => (L.getD j default).cs) k = ((swapL L i j).getD k default).cs := by
  simp only [setEl, swapL, List.getD_eq_getElem?_getD]
  by_cases h1 : k = j
  · subst h1; simp [hj]
  · rw [if_neg h1, List.getElem?_set_ne (Ne.symm h1)]
    by_cases h2 : k = i
    · subst h2; simp [hi]
    · rw [if_neg h2, List.getElem?_set_ne (Ne.symm h2)]
theorem sinkH_len (lt : HoldD → HoldD → Bool) (a : Nat) : ∀ (k : Nat) (L : List HoldD), (sink lt a k L).length = L.length
  | 0, L => rfl
  | k + 1, L => by
    simp only [sink]
    split
    · rw [sinkH_len lt a k, swapL_length]
    · rfl
theorem insFromH_len (lt : HoldD → HoldD → Bool) (a : Nat) : ∀ (c i : Nat) (L : List HoldD), (insFrom lt a c i L).length = L.length
  | 0, _, L => rfl
  | c + 1, i, L => by simp only [insFrom]; rw [insFromH_len lt a c, sinkH_len]
theorem insSortH_len (lt : HoldD → HoldD → Bool) (a b : Nat) (L : List HoldD) : (insSort lt a b L).length = L.length := insFromH_len _ _ _ _ _
theorem insertionSortH_ok (L : List HoldD) (a b : Nat) (hb : b ≤ L.length) (ha : a ≤ b) (hL : L.length < 4294967296) : MutC Try.prog 107 [.own 0, i64 a, i64 b, .f (.func 84) []] (hOb L) 1 Unit (fun _ => .t []) (fun _ => hOb (insSort ltH a b L)) (fun _ => 1) (fun _ => True) := by
  refine mutC_intro Try.func107 rfl rfl (Nat.le_of_ble_eq_true rfl) fun XC X0 w0 Ei ga hgh => ?_
  refine p_loop (n := 60) C rfl ?_
  let I : Nat × List HoldD → St := fun x => ⟨[(8, i64 x.1), (0, .own 0), (1, i64 a), (2, i64 b), (3, .f (.func 84) [])], hOb x.2, 53, 1, [], [ghost ga 1]⟩
  refine p_weaken (st1 := I (a + 1, L)) id (p_inv I (fun x => insFrom ltH a (b - x.1) x.1 x.2 = insSort ltH a b L ∧ x.2.length = L.length ∧ a < x.1 ∧ x.1 ≤ b + 1) (fun x => b + 1 - x.1) (fun x hx ih => ?_) (a + 1, L) ⟨rfl, rfl, by show a < a + 1; omega, by show a + 1 ≤ b + 1; omega⟩) (.inl rfl) rfl ⟨?_, rfl, rfl, rfl, rfl, rfl, rfl, rfl, rfl, rfl, trivial⟩ ⟨⟨rfl, rfl, rfl, fun _ _ => rfl⟩, Nat.le_of_ble_eq_true rfl, trivial⟩ rfl rfl rfl (sus_ghost (fun _ _ => rfl) (Nat.le_of_ble_eq_true rfl))
  rotate_left
  · show some (i64 _) = some (i64 _)
    dsimp only
    rw [wrapN (by omega)]
  obtain ⟨i, L1⟩ := x
  obtain ⟨x1, x2, x3, x4⟩ := hx
  dsimp only at x1 x2 x3 x4
  refine p_br (n := 60) C rfl (fun hr => ?_) (fun hr => ?_)
  · have h : (i : Int) < (b : Int) := of_decide_eq_true hr
    have h : i < b := by omega
    rw [show b - i = (b - (i + 1)) + 1 by omega, insFrom] at x1
    refine p_loop (n := 60) C rfl ?_
    let J : Nat × List HoldD → St := fun y => ⟨[(9, i64 ((a + y.1 : Nat) : Int)), (8, i64 i), (0, .own 0), (1, i64 a), (2, i64 b), (3, .f (.func 84) [])], hOb y.2, 53, 1, [], [ghost ga 1]⟩
    refine p_weaken (st1 := J (i - a, L1)) id (p_inv J (fun y => sink ltH a y.1 y.2 = sink ltH a (i - a) L1 ∧ y.2.length = L.length ∧ y.1 ≤ i - a) (fun y => y.1) (fun y hy ih2 => ?_) (i - a, L1) ⟨rfl, x2, Nat.le_refl _⟩) (.inl rfl) rfl ⟨?_, rfl, rfl, rfl, rfl, rfl, rfl, rfl, rfl, rfl, rfl, rfl, trivial⟩ ⟨⟨rfl, rfl, rfl, fun _ _ => rfl⟩, Nat.le_of_ble_eq_true rfl, trivial⟩ rfl rfl rfl (sus_ghost (fun _ _ => rfl) (Nat.le_of_ble_eq_true rfl))
    rotate_left
    · show some (i64 _) = some (i64 _)
      dsimp only
      rw [show a + (i - a) = i by omega]
    obtain ⟨k, L2⟩ := y
    obtain ⟨y1, y2, y3⟩ := hy
    dsimp only at y1 y2 y3
    refine p_at (n := 60) C rfl ?_
    refine p_draw C [] (.t 0 <| .t 1 <| .t 2 <| .t 3 <| .t 4 <| .t 5 <| .t 6 <| .t 7 <| .t 8 <| .t 9 <| .t 10 <| .t 11 <| .t 12 <| .t 13 <| .o 14 <| .t 15 <| .t 16 .d) (by kernel_rfl) (by kernel_rfl) ?_
    refine d_br C rfl (fun hr2 => ?_) (fun hr2 => ?_)
    · have h2 : ((a + k : Nat) : Int) > (a : Int) := of_decide_eq_true hr2
      obtain ⟨k, rfl⟩ : ∃ k', k = k' + 1 := ⟨k - 1, by omega⟩
      have hw : IntKind.i64.wrap (((a + (k + 1) : Nat) : Int) - 1) = ((a + k : Nat) : Int) := by rw [wrapD (by omega) (by omega)]; rfl
      have n1 : (0 : Int) ≤ ((a + (k + 1) : Nat) : Int) ∧ ((a + (k + 1) : Nat) : Int) < (L2.length : Int) := by omega
      have n2 : a + (k + 1) < L2.length := by omega
      have n3 : (0 : Int) ≤ IntKind.i64.wrap (((a + (k + 1) : Nat) : Int) - 1) ∧ IntKind.i64.wrap (((a + (k + 1) : Nat) : Int) - 1) < (L2.length : Int) := by rw [hw]; omega
      have n4 : (IntKind.i64.wrap (((a + (k + 1) : Nat) : Int) - 1)).toNat < L2.length := by rw [hw]; simp; omega
      refine d_need C rfl ⟨n1, n1⟩ ?_
      refine d_need C rfl ⟨n2, n2⟩ ?_
      refine d_need C rfl ⟨n3, n3⟩ ?_
      refine d_need C rfl ⟨n4, n4⟩ ?_
      refine d_call C (cmpH_ok (L2.getD (a + (k + 1)) default) (L2.getD (IntKind.i64.wrap (((a + (k + 1) : Nat) : Int) - 1)).toNat default)) rfl fun _ _ => ?_
      refine d_fin C rfl ?_
      rw [hw, Int.toNat_natCast]
      refine p_br (n := 60) C rfl (fun hr3 => ?_) (fun hr3 => ?_)
      · have h3 : ltH (L2.getD (a + k + 1) default) (L2.getD (a + k) default) = true := hr3
        rw [sink, if_pos h3] at y1
        refine p_at (n := 60) C rfl ?_
        refine p_draw C [0] (.t 0 <| .t 1 <| .t 2 <| .t 3 <| .t 4 <| .t 5 <| .t 6 <| .t 7 <| .r 8 <| .r 9 <| .t 10 <| .t 11 <| .r 12 <| .r 13 <| .r 14 <| .o 15 <| .r 16 <| .o 17 .d) (by kernel_rfl) (by kernel_rfl) ?_
        refine d_need C rfl n3 ?_
        refine d_need C rfl n4 ?_
        refine d_need C rfl n1 ?_
        refine d_need C rfl n2 ?_
        refine d_need C rfl n1 ?_
        refine d_need C rfl n2 ?_
        refine d_need C rfl n3 ?_
        refine d_need C rfl n4 ?_
        refine d_fin C rfl ?_
        refine p_loop (n := 60) C rfl ?_
        refine p_weaken (st1 := J (k, swapL L2 (a + k + 1) (a + k))) id (ih2 (k, swapL L2 (a + k + 1) (a + k)) ⟨y1, by show (swapL L2 _ _).length = _; rw [swapL_length, y2], by show k ≤ _; omega⟩ (Nat.lt_succ_self _)) (.inl rfl) rfl ⟨?_, rfl, rfl, rfl, rfl, rfl, rfl, rfl, rfl, rfl, rfl, rfl, trivial⟩ ⟨⟨rfl, rfl, (swapL_length _ _ _).symm, fun q hq => ?_⟩, Nat.le_of_ble_eq_true rfl, trivial⟩ rfl rfl rfl (sus_ghost (fun _ _ => rfl) (Nat.le_of_ble_eq_true rfl))
        · show some (i64 _) = some (i64 _)
          dsimp only
          rw [hw]
        · show setEl (IntKind.i64.wrap (((a + (k + 1) : Nat) : Int) - 1)).toNat (L2.getD (a + (k + 1)) default).cs (setEl (a + (k + 1)) (L2.getD (IntKind.i64.wrap (((a + (k + 1) : Nat) : Int) - 1)).toNat default).cs fun j => (L2.getD j default).cs) q = _
          rw [hw, Int.toNat_natCast]
          exact swapL_rowH L2 (i := a + k + 1) (j := a + k) (by omega) (by omega) q
      · have h3 : ¬ ltH (L2.getD (a + k + 1) default) (L2.getD (a + k) default) = true := by
          have : ltH (L2.getD (a + k + 1) default) (L2.getD (a + k) default) = false := hr3
          rw [this]; simp
        rw [sink, if_neg h3] at y1
        rw [← y1] at x1
        refine p_loop (n := 60) C rfl ?_
        refine p_weaken (st1 := I (i + 1, L2)) id (ih (i + 1, L2) ⟨x1, y2, by show a < i + 1; omega, by show i + 1 ≤ b + 1; omega⟩ (by show b + 1 - (i + 1) < b + 1 - i; omega)) (.inl rfl) rfl ⟨?_, rfl, rfl, rfl, rfl, rfl, rfl, rfl, rfl, rfl, trivial⟩ ⟨⟨rfl, rfl, rfl, fun _ _ => rfl⟩, Nat.le_of_ble_eq_true rfl, trivial⟩ rfl rfl rfl (sus_ghost (fun _ _ => rfl) (Nat.le_of_ble_eq_true rfl))
        show some (i64 _) = some (i64 _)
        dsimp only
        rw [wrapN (by omega)]
    · have h2 : ¬ ((a + k : Nat) : Int) > (a : Int) := of_decide_eq_false hr2
      have hk : k = 0 := by omega
      subst hk
      rw [sink] at y1
      rw [← y1] at x1
      refine d_fin C rfl ?_
      refine p_br (n := 60) C rfl (fun h => absurd h (by decide)) (fun _ => ?_)
      refine p_loop (n := 60) C rfl ?_
      refine p_weaken (st1 := I (i + 1, L2)) id (ih (i + 1, L2) ⟨x1, y2, by show a < i + 1; omega, by show i + 1 ≤ b + 1; omega⟩ (by show b + 1 - (i + 1) < b + 1 - i; omega)) (.inl rfl) rfl ⟨?_, rfl, rfl, rfl, rfl, rfl, rfl, rfl, rfl, rfl, trivial⟩ ⟨⟨rfl, rfl, rfl, fun _ _ => rfl⟩, Nat.le_of_ble_eq_true rfl, trivial⟩ rfl rfl rfl (sus_ghost (fun _ _ => rfl) (Nat.le_of_ble_eq_true rfl))
      show some (i64 _) = some (i64 _)
      dsimp only
      rw [wrapN (by omega)]
  · have h : ¬ (i : Int) < (b : Int) := of_decide_eq_false hr
    rw [show b - i = 0 by omega, insFrom] at x1
    rw [← x1]
    exact p_retM (n := 60) C hgh Try.func107 rfl rfl rfl rfl rfl () trivial (Nat.le_refl _) rfl rfl rfl
end Go.Proofs.Ytneddobmlcbabaa
namespace Go.Proofs.Ytneddobmlcbabaa
open Go.SE
open Go.RowKit
open Go.PS
set_option maxRecDepth 100000
set_option maxHeartbeats 4000000

theorem symMergeH1_ok (L : List HoldD) (f a m : Nat) (ha : a < m) (hm : ¬ m - a = 1) (hb : m + 1 ≤ L.length) (hL : L.length < 4294967296) : MutC Try.prog 108 [.own 0, i64 a, i64 m, i64 ((m + 1 : Nat) : Int), .f (.func 84) []] (hOb L) 1 Unit (fun _ => .t []) (fun _ => hOb (symM ltH (f + 1) a m (m + 1) L)) (fun _ => 1) (fun _ => True) := by
  have htgt : symM ltH (f + 1) a m (m + 1) L = shDn (m - bs (fun h => !ltH (L.getD m default) (L.getD h default)) (m + 1 - a) a m) m L := by simp only [symM, if_neg hm, if_pos (show m + 1 - m = 1 by omega)]
  refine mutC_intro Try.func108 rfl rfl (Nat.le_of_ble_eq_true rfl) fun XC X0 w0 Ei ga hgh => ?_
  refine p_br (n := 60) C rfl (fun h1 => ?_) (fun h1 => ?_)
  · have h1 : IntKind.i64.wrap ((m : Int) - (a : Int)) = 1 := by simpa using h1
    rw [wrapS (by omega) (by omega)] at h1
    omega
  refine p_br (n := 60) C rfl (fun h2 => ?_) (fun h2 => ?_)
  rotate_left
  · have h2 : ¬ IntKind.i64.wrap (((m + 1 : Nat) : Int) - (m : Int)) = 1 := by simpa using h2
    rw [wrapS (by omega) (by omega)] at h2
    omega
  refine p_loop (n := 60) C rfl ?_
  let I : Nat × Nat × Nat → St := fun x => ⟨[(14, i64 x.2.1), (15, i64 x.2.2), (0, .own 0), (1, i64 a), (2, i64 m), (3, i64 ((m + 1 : Nat) : Int)), (4, .f (.func 84) [])], hOb L, 220, 1, [], [ghost ga 1]⟩
  refine p_weaken (st1 := I (m + 1 - a, a, m)) id (p_inv I (fun x => bs (fun h => !ltH (L.getD m default) (L.getD h default)) x.1 x.2.1 x.2.2 = bs (fun h => !ltH (L.getD m default) (L.getD h default)) (m + 1 - a) a m ∧ a ≤ x.2.1 ∧ x.2.1 ≤ x.2.2 ∧ x.2.2 ≤ m ∧ x.2.2 - x.2.1 ≤ x.1) (fun x => x.2.2 - x.2.1) (fun x hx ih2 => ?_) (m + 1 - a, a, m) ⟨rfl, Nat.le_refl _, by show a ≤ m; omega, Nat.le_refl _, by show m - a ≤ m + 1 - a; omega⟩) (.inl rfl) rfl ⟨rfl, rfl, rfl, rfl, rfl, rfl, rfl, rfl, rfl, rfl, rfl, rfl, rfl, rfl, trivial⟩ ⟨⟨rfl, rfl, rfl, fun _ _ => rfl⟩, Nat.le_of_ble_eq_true rfl, trivial⟩ rfl rfl rfl (sus_ghost (fun _ _ => rfl) (Nat.le_of_ble_eq_true rfl))
  obtain ⟨f1, i, j⟩ := x
  obtain ⟨x1, x2, x3, x4, x5⟩ := hx
  dsimp only at x1 x2 x3 x4 x5
  refine p_br (n := 60) C rfl (fun hq3 => ?_) (fun hq3 => ?_)
  · have h3 : (i : Int) < (j : Int) := of_decide_eq_true hq3
    have h3 : i < j := by omega
    obtain ⟨f1, rfl⟩ : ∃ f', f1 = f' + 1 := ⟨f1 - 1, by omega⟩
    rw [bs, if_pos h3] at x1
    obtain ⟨hh1, hh2⟩ : i ≤ (i + j) / 2 ∧ (i + j) / 2 < j := by omega
    refine p_need (n := 60) C rfl (by decide) ?_
    refine p_at (n := 60) C rfl ?_
    refine p_weaken (st1 := ⟨[(16, i64 (((i + j) / 2 : Nat) : Int)), (14, i64 i), (15, i64 j), (0, .own 0), (1, i64 a), (2, i64 m), (3, i64 ((m + 1 : Nat) : Int)), (4, .f (.func 84) [])], hOb L, 220, 1, [], [ghost ga 1]⟩) id ?_ (.inl rfl) rfl ⟨?_, rfl, rfl, rfl, rfl, rfl, rfl, rfl, rfl, rfl, rfl, rfl, rfl, rfl, rfl, rfl, trivial⟩ ⟨⟨rfl, rfl, rfl, fun _ _ => rfl⟩, Nat.le_of_ble_eq_true rfl, trivial⟩ rfl rfl rfl (sus_ghost (fun _ _ => rfl) (Nat.le_of_ble_eq_true rfl))
    rotate_left
    · show some (i64 _) = some (i64 _)
      dsimp only
      rw [wrapH (by omega)]
    refine p_draw C [] (.t 0 <| .t 1 <| .t 2 <| .t 3 <| .t 4 <| .t 5 <| .t 6 <| .t 7 <| .t 8 <| .o 9 <| .t 10 <| .t 11 .d) (by kernel_rfl) (by kernel_rfl) ?_
    have n1 : (0 : Int) ≤ (m : Int) ∧ (m : Int) < (L.length : Int) := by omega
    have n2 : m < L.length := by omega
    have n3 : (0 : Int) ≤ (((i + j) / 2 : Nat) : Int) ∧ (((i + j) / 2 : Nat) : Int) < (L.length : Int) := by omega
    have n4 : (i + j) / 2 < L.length := by omega
    refine d_need C rfl ⟨n1, n1⟩ ?_
    refine d_need C rfl ⟨n2, n2⟩ ?_
    refine d_need C rfl ⟨n3, n3⟩ ?_
    refine d_need C rfl ⟨n4, n4⟩ ?_
    refine d_call C (cmpH_ok (L.getD m default) (L.getD ((i + j) / 2) default)) rfl fun _ _ => ?_
    refine d_fin C rfl ?_
    have hx1 := x1
    refine p_br (n := 60) C rfl (fun h4 => ?_) (fun h4 => ?_)
    · have h4 : (!ltH (L.getD m default) (L.getD ((i + j) / 2) default)) = true := h4
      rw [if_pos h4] at hx1
      refine p_loop (n := 60) C rfl ?_
      refine p_weaken (st1 := I (f1, (i + j) / 2 + 1, j)) id (ih2 (f1, (i + j) / 2 + 1, j) ⟨hx1, by show a ≤ (i + j) / 2 + 1; omega, by show (i + j) / 2 + 1 ≤ j; omega, x4, by show j - ((i + j) / 2 + 1) ≤ f1; omega⟩ (by show j - ((i + j) / 2 + 1) < j - i; omega)) (.inl rfl) rfl ⟨?_, rfl, rfl, rfl, rfl, rfl, rfl, rfl, rfl, rfl, rfl, rfl, rfl, rfl, trivial⟩ ⟨⟨rfl, rfl, rfl, fun _ _ => rfl⟩, Nat.le_of_ble_eq_true rfl, trivial⟩ rfl rfl rfl (sus_ghost (fun _ _ => rfl) (Nat.le_of_ble_eq_true rfl))
      show some (i64 _) = some (i64 _)
      rw [wrapN (by omega)]
    · have h4 : (!ltH (L.getD m default) (L.getD ((i + j) / 2) default)) = false := h4
      rw [if_neg (by rw [h4]; simp)] at hx1
      refine p_loop (n := 60) C rfl ?_
      exact p_weaken (st1 := I (f1, i, (i + j) / 2)) id (ih2 (f1, i, (i + j) / 2) ⟨hx1, x2, by show i ≤ (i + j) / 2; omega, by show (i + j) / 2 ≤ m; omega, by show (i + j) / 2 - i ≤ f1; omega⟩ (by show (i + j) / 2 - i < j - i; omega)) (.inl rfl) rfl ⟨rfl, rfl, rfl, rfl, rfl, rfl, rfl, rfl, rfl, rfl, rfl, rfl, rfl, rfl, trivial⟩ ⟨⟨rfl, rfl, rfl, fun _ _ => rfl⟩, Nat.le_of_ble_eq_true rfl, trivial⟩ rfl rfl rfl (sus_ghost (fun _ _ => rfl) (Nat.le_of_ble_eq_true rfl))
  · have h3 : ¬ (i : Int) < (j : Int) := of_decide_eq_false hq3
    have hij : i = j := by omega
    subst hij
    rw [bs_stop] at x1
    refine p_loop (n := 60) C rfl ?_
    let J : Nat × List HoldD → St := fun x => ⟨[(17, i64 x.1), (14, i64 i), (0, .own 0)], hOb x.2, 220, 1, [], [ghost ga 1]⟩
    refine p_weaken (st1 := J (m, L)) id (p_inv J (fun x => shDn (x.1 - i) x.1 x.2 = symM ltH (f + 1) a m (m + 1) L ∧ x.2.length = L.length ∧ x.1 ≤ m ∧ i ≤ x.1) (fun x => x.1 - i) (fun x hx ih3 => ?_) (m, L) ⟨by rw [htgt, ← x1], rfl, Nat.le_refl _, by show i ≤ m; omega⟩) (.inl rfl) rfl ⟨rfl, rfl, rfl, rfl, rfl, rfl, trivial⟩ ⟨⟨rfl, rfl, rfl, fun _ _ => rfl⟩, Nat.le_of_ble_eq_true rfl, trivial⟩ rfl rfl rfl (sus_ghost (fun _ _ => rfl) (Nat.le_of_ble_eq_true rfl))
    obtain ⟨k, L2⟩ := x
    obtain ⟨y1, y2, y3, y4⟩ := hx
    dsimp only at y1 y2 y3 y4
    refine p_br (n := 60) C rfl (fun h5 => ?_) (fun h5 => ?_)
    · have h5 : (k : Int) > (i : Int) := of_decide_eq_true h5
      rw [show k - i = (k - 1 - i) + 1 by omega, shDn] at y1
      have hw : IntKind.i64.wrap ((k : Int) - 1) = ((k - 1 : Nat) : Int) := by rw [wrapD (by omega) (by omega)]
      have n1 : (0 : Int) ≤ (k : Int) ∧ (k : Int) < (L2.length : Int) := by omega
      have n2 : k < L2.length := by omega
      have n3 : (0 : Int) ≤ IntKind.i64.wrap ((k : Int) - 1) ∧ IntKind.i64.wrap ((k : Int) - 1) < (L2.length : Int) := by rw [hw]; omega
      have n4 : (IntKind.i64.wrap ((k : Int) - 1)).toNat < L2.length := by rw [hw]; simp; omega
      refine p_at (n := 60) C rfl ?_
      refine p_draw C [0] (.t 0 <| .t 1 <| .t 2 <| .t 3 <| .t 4 <| .t 5 <| .t 6 <| .t 7 <| .r 8 <| .r 9 <| .t 10 <| .t 11 <| .r 12 <| .r 13 <| .r 14 <| .o 15 <| .r 16 <| .o 17 .d) (by kernel_rfl) (by kernel_rfl) ?_
      refine d_need C rfl n3 ?_
      refine d_need C rfl n4 ?_
      refine d_need C rfl n1 ?_
      refine d_need C rfl n2 ?_
      refine d_need C rfl n1 ?_
      refine d_need C rfl n2 ?_
      refine d_need C rfl n3 ?_
      refine d_need C rfl n4 ?_
      refine d_fin C rfl ?_
      refine p_loop (n := 60) C rfl ?_
      refine p_weaken (st1 := J (k - 1, swapL L2 k (k - 1))) id (ih3 (k - 1, swapL L2 k (k - 1)) ⟨y1, by show (swapL L2 _ _).length = _; rw [swapL_length, y2], by show k - 1 ≤ m; omega, by show i ≤ k - 1; omega⟩ (by show k - 1 - i < k - i; omega)) (.inl rfl) rfl ⟨?_, rfl, rfl, rfl, rfl, rfl, trivial⟩ ⟨⟨rfl, rfl, (swapL_length _ _ _).symm, fun q hq => ?_⟩, Nat.le_of_ble_eq_true rfl, trivial⟩ rfl rfl rfl (sus_ghost (fun _ _ => rfl) (Nat.le_of_ble_eq_true rfl))
      · show some (i64 _) = some (i64 _)
        dsimp only
        rw [hw]
      · show setEl (IntKind.i64.wrap ((k : Int) - 1)).toNat (L2.getD k default).cs (setEl k (L2.getD (IntKind.i64.wrap ((k : Int) - 1)).toNat default).cs fun j => (L2.getD j default).cs) q = _
        rw [hw, Int.toNat_natCast]
        exact swapL_rowH L2 (i := k) (j := k - 1) (by omega) (by omega) q
    · have h5 : ¬ (k : Int) > (i : Int) := of_decide_eq_false h5
      rw [show k - i = 0 by omega, shDn] at y1
      subst y1
      exact p_retM (n := 60) C hgh Try.func108 rfl rfl rfl rfl rfl () trivial (Nat.le_refl _) rfl rfl rfl
theorem insBlocksH_len (lt : HoldD → HoldD → Bool) (n : Nat) : ∀ (f a : Nat) (L : List HoldD), (insBlocks lt n f a L).length = L.length
  | 0, a, L => insSortH_len _ _ _ _
  | f + 1, a, L => by
    simp only [insBlocks]
    split
    · rw [insBlocksH_len lt n f, insSortH_len]
    · exact insSortH_len _ _ _ _
theorem insBlocksH_end (lt : HoldD → HoldD → Bool) (n f a : Nat) (L : List HoldD) (h : ¬ a + 20 ≤ n) : insBlocks lt n f a L = insSort lt a n L := by
  cases f with
  | zero => rfl
  | succ f => simp only [insBlocks, if_neg h]
theorem mergeAllH_end (lt : HoldD → HoldD → Bool) (n f k : Nat) (L : List HoldD) (h : ¬ k < n) : mergeAll lt n f k L = L := by
  cases f with
  | zero => rfl
  | succ f => simp only [mergeAll, if_neg h]
theorem stableH21 (lt : HoldD → HoldD → Bool) (L : List HoldD) (h : L.length = 21) : stable lt L = symM lt 21 0 20 21 (insBlocks lt 21 21 0 L) := by
  rw [stable, h]
  simp [mergeAll, mergePass]
theorem stableH20 (lt : HoldD → HoldD → Bool) (L : List HoldD) (h : L.length ≤ 20) : stable lt L = insBlocks lt L.length L.length 0 L := by
  rw [stable, mergeAllH_end _ _ _ _ _ (by omega)]
theorem stableH_ok (L : List HoldD) (hL : L.length ≤ 21) : MutC Try.prog 103 [.own 0, i64 (L.length : Int), .f (.func 84) []] (hOb L) 1 Unit (fun _ => .t []) (fun _ => hOb (stable ltH L)) (fun _ => 1) (fun _ => True) := by
  refine mutC_intro Try.func103 rfl rfl (Nat.le_of_ble_eq_true rfl) fun XC X0 w0 Ei ga hgh => ?_
  obtain ⟨n, hn⟩ : ∃ n, n = L.length := ⟨_, rfl⟩
  refine p_loop (n := 60) C rfl ?_
  let I : Nat × Nat × List HoldD → St := fun x => ⟨[(7, i64 x.2.1), (8, i64 (x.2.1 + 20 : Nat)), (1, i64 (n : Int)), (6, i64 20), (0, .own 0), (2, .f (.func 84) [])], hOb x.2.2, 63, 1, [], [ghost ga 1]⟩
  refine p_weaken (st1 := I (n, 0, L)) id (p_inv I (fun x => insBlocks ltH n x.1 x.2.1 x.2.2 = insBlocks ltH n n 0 L ∧ x.2.2.length = n ∧ x.2.1 ≤ n ∧ n - x.2.1 ≤ x.1) (fun x => n - x.2.1) (fun x hx ih => ?_) (n, 0, L) ⟨rfl, hn.symm, Nat.zero_le _, by show n - 0 ≤ n; omega⟩) (.inl rfl) rfl ⟨rfl, rfl, rfl, rfl, ?_, rfl, rfl, rfl, rfl, rfl, rfl, rfl, trivial⟩ ⟨⟨rfl, rfl, rfl, fun _ _ => rfl⟩, Nat.le_of_ble_eq_true rfl, trivial⟩ rfl rfl rfl (sus_ghost (fun _ _ => rfl) (Nat.le_of_ble_eq_true rfl))
  rotate_left
  · show some (i64 _) = some (i64 _)
    rw [hn]
  obtain ⟨f, a, L1⟩ := x
  obtain ⟨x1, x2, x3, x4⟩ := hx
  dsimp only at x1 x2 x3 x4
  refine p_br (n := 60) C rfl (fun qr => ?_) (fun qr => ?_)
  · have q : ((a + 20 : Nat) : Int) ≤ (n : Int) := of_decide_eq_true qr
    have q : a + 20 ≤ n := by omega
    obtain ⟨f, rfl⟩ : ∃ f', f = f' + 1 := ⟨f - 1, by omega⟩
    rw [insBlocks, if_pos q] at x1
    refine p_at (n := 60) C rfl ?_
    refine p_callM C id (insertionSortH_ok L1 a (a + 20) (by omega) (by omega) (by omega)) rfl rfl rfl rfl rfl rfl ⟨⟨rfl, rfl, rfl, fun _ _ => rfl⟩, Nat.le_of_ble_eq_true rfl, trivial⟩ rfl fun _ _ => ?_
    refine p_loop (n := 60) C rfl ?_
    refine p_weaken (st1 := I (f, a + 20, insSort ltH a (a + 20) L1)) id (ih (f, a + 20, insSort ltH a (a + 20) L1) ⟨x1, by show (insSort _ _ _ _).length = _; rw [insSortH_len, x2], q, by show n - (a + 20) ≤ f; omega⟩ (by show n - (a + 20) < n - a; omega)) (.inl rfl) rfl ⟨rfl, rfl, ?_, rfl, rfl, rfl, rfl, rfl, rfl, rfl, rfl, rfl, trivial⟩ ⟨⟨rfl, rfl, rfl, fun _ _ => rfl⟩, Nat.le_of_ble_eq_true rfl, trivial⟩ rfl rfl rfl (sus_ghost (fun _ _ => rfl) (Nat.le_of_ble_eq_true rfl))
    show some (i64 _) = some (i64 _)
    dsimp only
    rw [show (20 : Int) = ((20 : Nat) : Int) from rfl, wrapA (by omega)]
  have q : ¬ ((a + 20 : Nat) : Int) ≤ (n : Int) := of_decide_eq_false qr
  have q : ¬ a + 20 ≤ n := by omega
  rw [insBlocksH_end _ _ _ _ _ q] at x1
  refine p_at (n := 60) C rfl ?_
  refine p_callM C id (insertionSortH_ok L1 a n (by omega) (by omega) (by omega)) rfl rfl rfl rfl rfl rfl ⟨⟨rfl, rfl, rfl, fun _ _ => rfl⟩, Nat.le_of_ble_eq_true rfl, trivial⟩ rfl fun _ _ => ?_
  rw [x1]
  have hl0 : (insBlocks ltH n n 0 L).length = n := by rw [insBlocksH_len, hn]
  refine p_loop (n := 60) C rfl ?_
  by_cases h21 : n = 21
  · subst h21
    have htgt := stableH21 ltH L hn.symm
    rw [htgt]
    generalize insBlocks ltH 21 21 0 L = L2 at hl0
    refine p_br (n := 60) C rfl (fun _ => ?_) (fun h => absurd h (by decide))
    refine p_loop (n := 60) C rfl ?_
    refine p_br (n := 60) C rfl (fun h => absurd h (by decide)) (fun _ => ?_)
    refine p_br (n := 60) C rfl (fun _ => ?_) (fun h => absurd h (by decide))
    refine p_at (n := 60) C rfl ?_
    refine p_callM C id (symMergeH1_ok L2 20 0 20 (by omega) (by omega) (by omega) (by omega)) rfl rfl rfl rfl rfl rfl ⟨⟨rfl, rfl, rfl, fun _ _ => rfl⟩, Nat.le_of_ble_eq_true rfl, trivial⟩ rfl fun _ _ => ?_
    refine p_loop (n := 60) C rfl ?_
    refine p_br (n := 60) C rfl (fun h => absurd h (by decide)) (fun _ => ?_)
    exact p_retM (n := 60) C hgh Try.func103 rfl rfl rfl rfl rfl () trivial (Nat.le_refl _) rfl rfl rfl
  · rw [stableH20 ltH L (by omega), ← hn]
    refine p_br (n := 60) C rfl (fun h => ?_) (fun _ => ?_)
    · have h : (20 : Int) < (n : Int) := of_decide_eq_true h
      omega
    exact p_retM (n := 60) C hgh Try.func103 rfl rfl rfl rfl rfl () trivial (Nat.le_refl _) rfl rfl rfl
theorem sortStableH_ok (L : List HoldD) (hL : L.length ≤ 21) : MutC Try.prog 83 [.own 0, .f (.func 84) []] (hOb L) 1 Unit (fun _ => .t []) (fun _ => hOb (stable ltH L)) (fun _ => 1) (fun _ => True) := by
  refine mutC_intro Try.func83 rfl rfl (Nat.le_of_ble_eq_true rfl) fun XC X0 w0 Ei ga hgh => ?_
  refine p_at (n := 60) C rfl ?_
  refine p_callM C id (stableH_ok L hL) rfl rfl rfl rfl rfl rfl ⟨⟨rfl, rfl, rfl, fun _ _ => rfl⟩, Nat.le_of_ble_eq_true rfl, trivial⟩ rfl fun _ _ => ?_
  exact p_retM (n := 60) C hgh Try.func83 rfl rfl rfl rfl rfl () trivial (Nat.le_refl _) rfl rfl rfl
end Go.Proofs.Ytneddobmlcbabaa
namespace Go.Proofs.Ytneddobmlcbabaa
open Go.SE
open Go.RowKit
open Go.PS
set_option maxRecDepth 100000
set_option maxHeartbeats 4000000

def vOb (L : List FreeD) : List (Nat × Ob) := [(0, .row 73 4 L.length fun j => (L.getD j default).cs)]
def errOf (r : Except Int FreeD) : Int := match r with
  | .ok _ => 0
  | .error e => e
def setOf (L : List FreeD) (k : Nat) (r : Except Int FreeD) : List FreeD := match r with
  | .ok f => L.set k f
  | .error _ => L
def lessT (f s : FreeD) : Except Int FreeD := if bw .andNot .u64 s.m f.m ≠ 0 then .error 5 else if s.c > f.c then .error 5 else .ok { f with m := bw .andNot .u64 f.m s.m, c := IntKind.i64.wrap (f.c - s.c) }
def moreT (f s : FreeD) : Except Int FreeD := if bw .and .u64 s.m f.m ≠ 0 then .error 4 else if s.c > IntKind.i64.wrap (1048576 - f.c) then .error 14 else .ok { f with m := bw .or .u64 f.m s.m, c := IntKind.i64.wrap (f.c + s.c) }
structure TurnC (g : Nat) (tn : FreeD → FreeD → Except Int FreeD) : Prop where
  ne : ∀ f s e, tn f s = .error e → e ≠ 0
  call : ∀ (L : List FreeD) (k : Nat) (s : FreeD), k < L.length → MutC Try.prog g [.q 0 k 4 0, .a s.cs] (vOb L) 1 Unit (fun _ => i64 (errOf (tn (L.getD k default) s))) (fun _ => vOb (setOf L k (tn (L.getD k default) s))) (fun _ => 1) (fun _ => True)
theorem setOf_len (L : List FreeD) (k : Nat) (r : Except Int FreeD) : (setOf L k r).length = L.length := by
  cases r <;> simp [setOf]
theorem less1_ok : TurnC 78 lessT := by
  refine ⟨fun f s e h => ?_, fun L k s hk => ?_⟩
  · unfold lessT at h
    split at h
    · cases h; decide
    · split at h
      · cases h; decide
      · cases h
  refine mutC_intro Try.func78 rfl rfl (Nat.le_of_ble_eq_true rfl) fun XC X0 w0 Ei ga hgh => ?_
  refine p_at (n := 60) C rfl ?_
  refine p_draw C [] (.t 0 <| .t 1 <| .t 2 <| .t 3 <| .t 4 <| .t 5 <| .t 6 <| .t 7 <| .t 8 <| .t 9 <| .t 10 <| .t 11 <| .t 12 <| .t 13 <| .t 14 <| .t 15 <| .t 16 .d) (by kernel_rfl) (by kernel_rfl) ?_
  refine d_need C rfl ⟨hk, hk⟩ ?_
  refine d_br C rfl (fun h1 => ?_) (fun h1 => ?_)
  · have h1 : bw .andNot .u64 s.m (L.getD k default).m ≠ 0 := by simpa using h1
    have htn : lessT (L.getD k default) s = .error 5 := by rw [lessT, if_pos h1]
    refine d_fin C rfl ?_
    refine p_br (n := 60) C rfl (fun _ => ?_) (fun h => absurd h (by decide))
    refine p_at (n := 60) C rfl ?_
    refine p_weaken (st1 := ⟨[(4, i64 5)], vOb L, 42, 1, [], [ghost ga 1]⟩) id ?_ (.inl rfl) rfl ⟨rfl, rfl, trivial⟩ ⟨⟨rfl, rfl, rfl, fun _ _ => rfl⟩, Nat.le_of_ble_eq_true rfl, trivial⟩ rfl rfl rfl (sus_ghost (fun _ _ => rfl) (Nat.le_of_ble_eq_true rfl))
    exact p_retM (n := 60) C hgh Try.func78 rfl rfl rfl rfl rfl () trivial (Nat.le_refl _) (by rw [htn]; rfl) (by rw [htn]; rfl) rfl
    
  · have h1 : ¬ bw .andNot .u64 s.m (L.getD k default).m ≠ 0 := by simpa using h1
    refine d_need C rfl ⟨hk, hk⟩ ?_
    refine d_fin C rfl ?_
    refine p_br (n := 60) C rfl (fun h2 => ?_) (fun h2 => ?_)
    · have h2 : s.c > (L.getD k default).c := of_decide_eq_true h2
      have htn : lessT (L.getD k default) s = .error 5 := by rw [lessT, if_neg h1, if_pos h2]
      refine p_at (n := 60) C rfl ?_
      refine p_weaken (st1 := ⟨[(4, i64 5)], vOb L, 42, 1, [], [ghost ga 1]⟩) id ?_ (.inl rfl) rfl ⟨rfl, rfl, trivial⟩ ⟨⟨rfl, rfl, rfl, fun _ _ => rfl⟩, Nat.le_of_ble_eq_true rfl, trivial⟩ rfl rfl rfl (sus_ghost (fun _ _ => rfl) (Nat.le_of_ble_eq_true rfl))
      exact p_retM (n := 60) C hgh Try.func78 rfl rfl rfl rfl rfl () trivial (Nat.le_refl _) (by rw [htn]; rfl) (by rw [htn]; rfl) rfl
      
    · have h2 : ¬ s.c > (L.getD k default).c := of_decide_eq_false h2
      refine p_at (n := 60) C rfl ?_
      refine p_draw C [0] (.t 0 <| .t 1 <| .t 2 <| .t 3 <| .t 4 <| .r 5 <| .t 6 <| .t 7 <| .t 8 <| .t 9 <| .t 10 <| .t 11 <| .r 12 <| .t 13 <| .t 14 <| .t 15 <| .t 16 <| .t 17 <| .o 18 <| .t 19 <| .t 20 <| .o 21 .d) (by kernel_rfl) (by kernel_rfl) ?_
      refine d_need C rfl hk ?_
      refine d_need C rfl hk ?_
      refine d_need C rfl hk ?_
      let f1 : FreeD := { L.getD k default with m := bw .andNot .u64 (L.getD k default).m s.m }
      let f2 : FreeD := { L.getD k default with m := bw .andNot .u64 (L.getD k default).m s.m, c := IntKind.i64.wrap ((L.getD k default).c - s.c) }
      refine d_row 0 (fun j => ((L.set k f1).getD j default).cs) rfl (fun j hj => setEl_set L k f1 _ rfl hk j) ?_
      have hg1 : (L.set k f1).getD k default = f1 := getD_set_same L _ f1 hk
      have hl1 : (L.set k f1).length = L.length := List.length_set
      generalize hL1 : L.set k f1 = L1 at *
      refine d_need C rfl hk ?_
      refine d_row 0 (fun j => ((L1.set k f2).getD j default).cs) rfl (fun j hj => setEl_set L1 k f2 _ (by rw [hg1]; rfl) (by omega) j) ?_
      have hset : L1.set k f2 = L.set k f2 := by rw [← hL1, List.set_set]
      rw [hset]
      have htn : lessT (L.getD k default) s = .ok f2 := by rw [lessT, if_neg h1, if_neg h2]
      refine d_fin C rfl ?_
      refine p_at (n := 60) C rfl ?_
      refine p_weaken (st1 := ⟨[(4, i64 0)], vOb (L.set k f2), 42, 1, [], [ghost ga 1]⟩) id ?_ (.inl rfl) rfl ⟨rfl, rfl, trivial⟩ ⟨⟨rfl, rfl, by show L.length = (L.set k f2).length; simp, fun _ _ => rfl⟩, Nat.le_of_ble_eq_true rfl, trivial⟩ rfl rfl rfl (sus_ghost (fun _ _ => rfl) (Nat.le_of_ble_eq_true rfl))
      exact p_retM (n := 60) C hgh Try.func78 rfl rfl rfl rfl rfl () trivial (Nat.le_refl _) (by rw [htn]; rfl) (by rw [htn]; rfl) rfl
      
theorem more1_ok : TurnC 102 moreT := by
  refine ⟨fun f s e h => ?_, fun L k s hk => ?_⟩
  · unfold moreT at h
    split at h
    · cases h; decide
    · split at h
      · cases h; decide
      · cases h
  refine mutC_intro Try.func102 rfl rfl (Nat.le_of_ble_eq_true rfl) fun XC X0 w0 Ei ga hgh => ?_
  refine p_at (n := 60) C rfl ?_
  refine p_draw C [] (.t 0 <| .t 1 <| .t 2 <| .t 3 <| .t 4 <| .t 5 <| .t 6 <| .t 7 .d) (by kernel_rfl) (by kernel_rfl) ?_
  refine d_need C rfl ⟨hk, hk⟩ ?_
  refine d_fin C rfl ?_
  refine p_br (n := 60) C rfl (fun h1 => ?_) (fun h1 => ?_)
  · have h1 : bw .and .u64 s.m (L.getD k default).m ≠ 0 := by simpa using h1
    have htn : moreT (L.getD k default) s = .error 4 := by rw [moreT, if_pos h1]
    refine p_at (n := 60) C rfl ?_
    refine p_weaken (st1 := ⟨[(4, i64 4)], vOb L, 41, 1, [], [ghost ga 1]⟩) id ?_ (.inl rfl) rfl ⟨rfl, rfl, trivial⟩ ⟨⟨rfl, rfl, rfl, fun _ _ => rfl⟩, Nat.le_of_ble_eq_true rfl, trivial⟩ rfl rfl rfl (sus_ghost (fun _ _ => rfl) (Nat.le_of_ble_eq_true rfl))
    exact p_retM (n := 60) C hgh Try.func102 rfl rfl rfl rfl rfl () trivial (Nat.le_refl _) (by rw [htn]; rfl) (by rw [htn]; rfl) rfl
    
  · have h1 : ¬ bw .and .u64 s.m (L.getD k default).m ≠ 0 := by simpa using h1
    refine p_at (n := 60) C rfl ?_
    refine p_draw C [] (.t 0 <| .t 1 <| .t 2 <| .t 3 <| .t 4 <| .t 5 <| .t 6 <| .t 7 .d) (by kernel_rfl) (by kernel_rfl) ?_
    refine d_need C rfl ⟨hk, hk⟩ ?_
    refine d_fin C rfl ?_
    refine p_br (n := 60) C rfl (fun h2 => ?_) (fun h2 => ?_)
    · have h2 : s.c > IntKind.i64.wrap (1048576 - (L.getD k default).c) := of_decide_eq_true h2
      have htn : moreT (L.getD k default) s = .error 14 := by rw [moreT, if_neg h1, if_pos h2]
      refine p_at (n := 60) C rfl ?_
      refine p_weaken (st1 := ⟨[(4, i64 14)], vOb L, 41, 1, [], [ghost ga 1]⟩) id ?_ (.inl rfl) rfl ⟨rfl, rfl, trivial⟩ ⟨⟨rfl, rfl, rfl, fun _ _ => rfl⟩, Nat.le_of_ble_eq_true rfl, trivial⟩ rfl rfl rfl (sus_ghost (fun _ _ => rfl) (Nat.le_of_ble_eq_true rfl))
      exact p_retM (n := 60) C hgh Try.func102 rfl rfl rfl rfl rfl () trivial (Nat.le_refl _) (by rw [htn]; rfl) (by rw [htn]; rfl) rfl
      
    · have h2 : ¬ s.c > IntKind.i64.wrap (1048576 - (L.getD k default).c) := of_decide_eq_false h2
      refine p_at (n := 60) C rfl ?_
      refine p_draw C [0] (.t 0 <| .t 1 <| .t 2 <| .t 3 <| .t 4 <| .r 5 <| .t 6 <| .t 7 <| .t 8 <| .t 9 <| .t 10 <| .t 11 <| .r 12 <| .t 13 <| .t 14 <| .t 15 <| .t 16 <| .t 17 <| .o 18 <| .t 19 <| .t 20 <| .o 21 .d) (by kernel_rfl) (by kernel_rfl) ?_
      refine d_need C rfl hk ?_
      refine d_need C rfl hk ?_
      refine d_need C rfl hk ?_
      let f1 : FreeD := { L.getD k default with m := bw .or .u64 (L.getD k default).m s.m }
      let f2 : FreeD := { L.getD k default with m := bw .or .u64 (L.getD k default).m s.m, c := IntKind.i64.wrap ((L.getD k default).c + s.c) }
      refine d_row 0 (fun j => ((L.set k f1).getD j default).cs) rfl (fun j hj => setEl_set L k f1 _ rfl hk j) ?_
      have hg1 : (L.set k f1).getD k default = f1 := getD_set_same L _ f1 hk
      have hl1 : (L.set k f1).length = L.length := List.length_set
      generalize hL1 : L.set k f1 = L1 at *
      refine d_need C rfl hk ?_
      refine d_row 0 (fun j => ((L1.set k f2).getD j default).cs) rfl (fun j hj => setEl_set L1 k f2 _ (by rw [hg1]; rfl) (by omega) j) ?_
      have hset : L1.set k f2 = L.set k f2 := by rw [← hL1, List.set_set]
      rw [hset]
      have htn : moreT (L.getD k default) s = .ok f2 := by rw [moreT, if_neg h1, if_neg h2]
      refine d_fin C rfl ?_
      refine p_at (n := 60) C rfl ?_
      refine p_weaken (st1 := ⟨[(4, i64 0)], vOb (L.set k f2), 41, 1, [], [ghost ga 1]⟩) id ?_ (.inl rfl) rfl ⟨rfl, rfl, trivial⟩ ⟨⟨rfl, rfl, by show L.length = (L.set k f2).length; simp, fun _ _ => rfl⟩, Nat.le_of_ble_eq_true rfl, trivial⟩ rfl rfl rfl (sus_ghost (fun _ _ => rfl) (Nat.le_of_ble_eq_true rfl))
      exact p_retM (n := 60) C hgh Try.func102 rfl rfl rfl rfl rfl () trivial (Nat.le_refl _) (by rw [htn]; rfl) (by rw [htn]; rfl) rfl
      
end Go.Proofs.Ytneddobmlcbabaa
namespace Go.Proofs.Ytneddobmlcbabaa
open Go.SE
open Go.RowKit
open Go.PS
set_option maxRecDepth 100000
set_option maxHeartbeats 4000000

/-- the last element at a spot, among the first j -/
def lastV (v : List FreeD) : Nat → List Int → Option Nat
  | 0, _ => none
  | j + 1, x => if [(v.getD j default).nd, (v.getD j default).dm] = x then some j else lastV v j x
def turnStep (tn : FreeD → FreeD → Except Int FreeD) (v out : List FreeD) (s : FreeD) : Except Int (List FreeD) :=
  if s.c < 0 then .error 1 else match lastV v v.length [s.nd, s.dm] with
    | none => .error 3
    | some k => match tn (out.getD k default) s with
      | .error e => .error e
      | .ok f => .ok (out.set k f)
def turnedV (tn : FreeD → FreeD → Except Int FreeD) (v slots : List FreeD) : Except Int (List FreeD) := slots.foldlM (turnStep tn v) v
theorem lastV_lt {v : List FreeD} : ∀ {j : Nat} {x : List Int} {k : Nat}, lastV v j x = some k → k < j
  | 0, _, _, h => by simp [lastV] at h
  | j + 1, x, k, h => by
    simp only [lastV] at h
    split at h
    · simp at h; omega
    · have := lastV_lt h; omega
/-- the map of spots -/
def esV (v : List FreeD) : Nat → List (List Int × SV)
  | 0 => []
  | j + 1 => mset (esV v j) [(v.getD j default).nd, (v.getD j default).dm] (i64 (j : Int))
theorem esV_len (v : List FreeD) : ∀ j, ∀ y ∈ esV v j, y.1.length = 2
  | 0 => by simp [esV]
  | j + 1 => mset_keys_len (esV_len v j) rfl
theorem esV_get (v : List FreeD) : ∀ (j : Nat) (x : List Int), mget (esV v j) x = (lastV v j x).map fun k => i64 (k : Int)
  | 0, _ => rfl
  | j + 1, x => by
    simp only [esV, lastV]
    rw [mget_mset]
    split
    · rfl
    · exact esV_get v j x
theorem foldlM_takeT {f : List FreeD → FreeD → Except Int (List FreeD)} {l : List FreeD} {o : List FreeD} {j : Nat} (h : j < l.length) : (l.take (j + 1)).foldlM f o = ((l.take j).foldlM f o).bind fun x => f x (l.getD j default) := by
  rw [List.take_add_one, List.foldlM_append]
  simp [List.getD_eq_getElem?_getD, h]
  rfl
theorem foldlM_errT {f : List FreeD → FreeD → Except Int (List FreeD)} {l : List FreeD} {o : List FreeD} {j : Nat} {e : Int} (h : (l.take j).foldlM f o = .error e) : l.foldlM f o = .error e := by
  rw [← List.take_append_drop j l, List.foldlM_append, h]
  rfl
theorem map165 : Try.prog.underlying 165 = some (.map 46 3) := by kernel_rfl
noncomputable def spotFs : Array Field := match Try.prog.underlying 46 with
  | some (.struct fs) => fs
  | _ => #[]
theorem spot_und : Try.prog.underlying 46 = some (.struct spotFs) := by kernel_rfl
theorem spot_fs : (spotFs.toList.all fun f => (match Try.prog.underlying f.type with | some (.int .i64) => true | _ => false) && decide (f.offset < 2)) = true := by kernel_rfl
theorem keySpot : KeyK Try.prog 46 false 2 := by
  refine keyK_struct C.eq (ti := (ty T 46).get (by kernel_rfl)) (by kernel_rfl) (by kernel_rfl) spot_und fun f hf => ?_
  have := List.all_eq_true.1 spot_fs f hf
  simp only [Bool.and_eq_true, decide_eq_true_eq] at this
  obtain ⟨h1, h2⟩ := this
  split at h1
  · rename_i h; exact ⟨h, h2⟩
  · cases h1
noncomputable def i3T : TypeInfo := (Try.prog.info? 3).get (by kernel_rfl)
theorem zero3 (E : Env) (w : World) : (zeroValue 3).run Try.prog w = .ok (den E (i64 0)) w := zero_of (i := i3T) (by kernel_rfl) (by kernel_rfl) w
theorem esV_i64 (v : List FreeD) : ∀ (j : Nat) (y : List Int × SV), y ∈ esV v j → ∃ k : Nat, y.2 = i64 (k : Int)
  | 0, y, h => by simp [esV] at h
  | j + 1, y, h => by
    rcases mset_mem h with h | h
    · exact esV_i64 v j y h
    · exact ⟨j, h⟩
theorem esV_scp (v : List FreeD) (j : Nat) : ((esV v j).all fun x => scp 2 x.2) = true := by
  rw [List.all_eq_true]
  intro x hx
  obtain ⟨k, hk⟩ := esV_i64 v j x hx
  rw [hk]; rfl
theorem esV_ren (σ : Nat → Nat) (v : List FreeD) (j : Nat) : (esV v j).map (fun x => (x.1, ren σ x.2)) = esV v j := by
  have : (esV v j).map (fun x => (x.1, ren σ x.2)) = (esV v j).map id := List.map_congr_left fun x hx => by
    obtain ⟨k, hk⟩ := esV_i64 v j x hx
    obtain ⟨a, b⟩ := x
    simp only at hk
    subst hk; rfl
  rw [this, List.map_id]
theorem turned_ok {g : Nat} {tn : FreeD → FreeD → Except Int FreeD} (HT : TurnC g tn) (v sl : Sl FreeD) (hl : v.l.length < 4294967296) (hl2 : sl.l.length < 4294967296) : PureC Try.prog 77 [v.sv 4 FreeD.cs, sl.sv 4 FreeD.cs, .f (.func g) []] (Option Addr × Nat) (fun y => resL y.1 y.2 (turnedV tn v.l sl.l)) (fun _ => True) := by
  refine pureC_intro Try.func77 rfl rfl rfl (fun _ => resL_pure _ _ _) (Nat.le_of_ble_eq_true rfl) fun XC w0 => ?_
  refine p_callO (n := 60) C (cloneF_ok v hl) rfl rfl ?_
  refine p_at (n := 60) C rfl ?_
  refine p_makeMap false rfl rfl rfl ?_
  refine p_loop (n := 60) C rfl ?_
  let I : Nat → St := fun j => ⟨[(22, i64 (j : Int)), (21, i64 (v.l.length : Int)), (20, .own 0), (1, sl.sv 4 FreeD.cs), (2, .f (.func g) []), (8, .own 0), (9, .m 1)], [(1, .mp false (esV v.l j)), (0, .row 73 4 v.l.length fun i => (v.l.getD i default).cs)], 63, 2, [], []⟩
  refine p_weaken (st1 := I 0) id (p_inv I (fun j => j ≤ v.l.length) (fun j => v.l.length - j) (fun j hj ih => ?_) 0 (Nat.zero_le _)) (.inl rfl) rfl ⟨rfl, rfl, rfl, rfl, rfl, rfl, rfl, rfl, rfl, rfl, rfl, rfl, rfl, rfl, trivial⟩ ⟨⟨rfl, rfl, rfl⟩, Nat.le_of_ble_eq_true rfl, ⟨rfl, rfl, rfl, fun _ _ => rfl⟩, Nat.le_of_ble_eq_true rfl, trivial⟩ rfl rfl rfl trivial
  refine p_br (n := 60) C rfl (fun hr => ?_) (fun hr => ?_)
  · have h : (j : Int) < (v.l.length : Int) := of_decide_eq_true hr
    have h : j < v.l.length := by omega
    refine p_need (n := 60) C rfl (show (0 : Int) ≤ (j : Int) ∧ (j : Int) < (v.l.length : Int) by omega) ?_
    refine p_need (n := 60) C rfl h ?_
    refine p_at (n := 60) C rfl ?_
    refine p_mapUpdate map165 keySpot [(v.l.getD j default).nd, (v.l.getD j default).dm] (j := 1) (u := i64 (j : Int)) rfl rfl rfl rfl rfl rfl rfl (esV_len v.l j) rfl ?_
    refine p_loop (n := 60) C rfl ?_
    refine p_weaken (st1 := I (j + 1)) id (ih (j + 1) (by omega) (by omega)) (.inl rfl) rfl ⟨?_, rfl, rfl, rfl, rfl, rfl, rfl, rfl, rfl, rfl, rfl, rfl, rfl, rfl, trivial⟩ ⟨⟨rfl, (esV_ren id v.l (j + 1)).symm, esV_scp v.l (j + 1)⟩, Nat.le_of_ble_eq_true rfl, ⟨rfl, rfl, rfl, fun _ _ => rfl⟩, Nat.le_of_ble_eq_true rfl, trivial⟩ rfl rfl rfl trivial
    show some (i64 _) = some (i64 _)
    rw [wrapN (by omega)]
  have h : ¬ (j : Int) < (v.l.length : Int) := of_decide_eq_false hr
  have h : j = v.l.length := by omega
  subst h
  refine p_loop (n := 60) C rfl ?_
  let J : Nat × List FreeD → St := fun x => ⟨[(34, i64 (x.1 : Int)), (33, i64 (sl.l.length : Int)), (32, sl.sv 4 FreeD.cs), (2, .f (.func g) []), (8, .own 0), (9, .m 1)], [(1, .mp false (esV v.l v.l.length)), (0, .row 73 4 x.2.length fun i => (x.2.getD i default).cs)], 63, 2, [], []⟩
  refine p_weaken (st1 := J (0, v.l)) id (p_inv J (fun x => x.1 ≤ sl.l.length ∧ x.2.length = v.l.length ∧ (sl.l.take x.1).foldlM (turnStep tn v.l) v.l = .ok x.2) (fun x => sl.l.length - x.1) (fun x hx ih => ?_) (0, v.l) ⟨Nat.zero_le _, rfl, rfl⟩) (.inl rfl) rfl ⟨rfl, rfl, rfl, rfl, rfl, rfl, rfl, rfl, rfl, rfl, rfl, rfl, trivial⟩ ⟨⟨rfl, (esV_ren id v.l _).symm, esV_scp v.l _⟩, Nat.le_of_ble_eq_true rfl, ⟨rfl, rfl, rfl, fun _ _ => rfl⟩, Nat.le_of_ble_eq_true rfl, trivial⟩ rfl rfl rfl trivial
  obtain ⟨j, out⟩ := x
  obtain ⟨x1, x2, x3⟩ := hx
  dsimp only at x1 x2 x3
  have err : ∀ {e : Int}, turnStep tn v.l out (sl.l.getD j default) = .error e → j < sl.l.length → turnedV tn v.l sl.l = .error e := fun {e} h hlt => foldlM_errT (j := j + 1) (by rw [foldlM_takeT hlt, x3]; exact h)
  refine p_br (n := 60) C rfl (fun hr => ?_) (fun hr => ?_)
  · have h : (j : Int) < (sl.l.length : Int) := of_decide_eq_true hr
    have hj : j < sl.l.length := by omega
    refine p_need (n := 60) C rfl (show (0 : Int) ≤ (j : Int) ∧ (j : Int) < (sl.l.length : Int) by omega) ?_
    refine p_at (n := 60) C rfl ?_
    have hget := esV_get v.l v.l.length [(sl.l.getD j default).nd, (sl.l.getD j default).dm]
    cases hlv : lastV v.l v.l.length [(sl.l.getD j default).nd, (sl.l.getD j default).dm] with
    | none =>
      rw [hlv] at hget
      refine p_lookup map165 keySpot [(sl.l.getD j default).nd, (sl.l.getD j default).dm] none (i64 0) zero3 rfl (j := 1) rfl rfl rfl rfl rfl rfl (esV_len v.l _) rfl hget ?_
      refine p_br (n := 60) C rfl (fun h1 => ?_) (fun h1 => ?_)
      · have h1 : (sl.l.getD j default).c < 0 := of_decide_eq_true h1
        refine p_br (n := 60) C rfl (fun _ => ?_) (fun h => absurd h (by decide))
        exact p_ret (n := 60) C Try.func77 rfl rfl rfl rfl (none, 0) trivial (by rw [err (by rw [turnStep, if_pos h1]) hj]; rfl) (resL_pure _ _ _)
      · have h1 : ¬ (sl.l.getD j default).c < 0 := of_decide_eq_false h1
        refine p_br (n := 60) C rfl (fun _ => ?_) (fun h => absurd h (by decide))
        refine p_br (n := 60) C rfl (fun _ => ?_) (fun h => absurd h (by decide))
        exact p_ret (n := 60) C Try.func77 rfl rfl rfl rfl (none, 0) trivial (by rw [err (by rw [turnStep, if_neg h1, hlv]) hj]; rfl) (resL_pure _ _ _)
    | some k =>
      rw [hlv] at hget
      have hk : k < out.length := by have := lastV_lt hlv; omega
      refine p_lookup map165 keySpot [(sl.l.getD j default).nd, (sl.l.getD j default).dm] (some (i64 (k : Int))) (i64 0) zero3 rfl (j := 1) rfl rfl rfl rfl rfl rfl (esV_len v.l _) rfl hget ?_
      refine p_br (n := 60) C rfl (fun h1 => ?_) (fun h1 => ?_)
      · have h1 : (sl.l.getD j default).c < 0 := of_decide_eq_true h1
        refine p_br (n := 60) C rfl (fun _ => ?_) (fun h => absurd h (by decide))
        exact p_ret (n := 60) C Try.func77 rfl rfl rfl rfl (none, 0) trivial (by rw [err (by rw [turnStep, if_pos h1]) hj]; rfl) (resL_pure _ _ _)
      · have h1 : ¬ (sl.l.getD j default).c < 0 := of_decide_eq_false h1
        refine p_br (n := 60) C rfl (fun h => absurd h (by simp)) (fun _ => ?_)
        have hstep : turnStep tn v.l out (sl.l.getD j default) = match tn (out.getD k default) (sl.l.getD j default) with | .error e => .error e | .ok f => .ok (out.set k f) := by rw [turnStep, if_neg h1, hlv]
        refine p_at (n := 60) C rfl ?_
        refine p_draw C [0] (.t 0 <| .t 1 <| .t 2 <| .r 3 <| .t 4 <| .w <| .o 5 <| .o 6 .d) (by kernel_rfl) (by kernel_rfl) ?_
        refine d_need C rfl (show (0 : Int) ≤ (k : Int) ∧ (k : Int) < (out.length : Int) by omega) ?_
        refine d_at C rfl ?_
        refine d_callM C id (HT.call out k (sl.l.getD j default) hk) rfl rfl rfl rfl rfl rfl rfl ⟨⟨rfl, rfl, rfl, fun _ _ => rfl⟩, Nat.le_of_ble_eq_true rfl, trivial⟩ rfl rfl rfl (fun _ _ => rfl) fun _ _ => ?_
        refine d_fin C rfl ?_
        cases htn : tn (out.getD k default) (sl.l.getD j default) with
        | error e =>
          have hne := HT.ne _ _ _ htn
          rw [htn] at hstep
          refine p_br (n := 60) C rfl (fun _ => ?_) (fun h => absurd h (by simp [errOf, hne]))
          exact p_ret (n := 60) C Try.func77 rfl rfl rfl rfl (none, 0) trivial (by rw [err hstep hj]; rfl) (resL_pure _ _ _)
        | ok f =>
          rw [htn] at hstep
          refine p_br (n := 60) C rfl (fun h => absurd h (by simp [errOf])) (fun _ => ?_)
          refine p_loop (n := 60) C rfl ?_
          refine p_weaken (st1 := J (j + 1, out.set k f)) id (ih (j + 1, out.set k f) ⟨hj, by show (out.set k f).length = _; simp [x2], by rw [foldlM_takeT hj, x3]; exact hstep⟩ (by show sl.l.length - (j + 1) < sl.l.length - j; omega)) (.inl rfl) rfl ⟨?_, rfl, rfl, rfl, rfl, rfl, rfl, rfl, rfl, rfl, rfl, rfl, trivial⟩ ⟨⟨rfl, (esV_ren id v.l _).symm, esV_scp v.l _⟩, Nat.le_of_ble_eq_true rfl, ⟨rfl, rfl, rfl, fun _ _ => rfl⟩, Nat.le_of_ble_eq_true rfl, trivial⟩ rfl rfl rfl trivial
          show some (i64 _) = some (i64 _)
          rw [wrapN (by omega)]
  · have h : ¬ (j : Int) < (sl.l.length : Int) := of_decide_eq_false hr
    have hj : j = sl.l.length := by omega
    subst hj
    rw [List.take_length] at x3
    refine p_at (n := 60) C rfl ?_
    refine p_frz 0 rfl fun A c => ?_
    exact p_ret (n := 60) C Try.func77 rfl rfl rfl rfl (A, c) trivial (by rw [turnedV, x3]; rfl) (resL_pure _ _ _)
theorem less_view_ok (v sl : Sl FreeD) (hl : v.l.length < 4294967296) (hl2 : sl.l.length < 4294967296) : PureC Try.prog 57 [v.sv 4 FreeD.cs, sl.sv 4 FreeD.cs] (Option Addr × Nat) (fun y => resL y.1 y.2 (turnedV lessT v.l sl.l)) (fun _ => True) := by
  refine pureC_intro Try.func57 rfl rfl rfl (fun _ => resL_pure _ _ _) (Nat.le_of_ble_eq_true rfl) fun XC w0 => ?_
  refine p_call (n := 60) C (turned_ok less1_ok v sl hl hl2) rfl rfl fun y _ => ?_
  cases hr : turnedV lessT v.l sl.l with
  | ok l => exact p_ret (n := 60) C Try.func57 rfl rfl rfl rfl y trivial rfl (resL_pure _ _ _)
  | error e => exact p_ret (n := 60) C Try.func57 rfl rfl rfl rfl y trivial rfl (resL_pure _ _ _)
theorem more_view_ok (v sl : Sl FreeD) (hl : v.l.length < 4294967296) (hl2 : sl.l.length < 4294967296) : PureC Try.prog 81 [v.sv 4 FreeD.cs, sl.sv 4 FreeD.cs] (Option Addr × Nat) (fun y => resL y.1 y.2 (turnedV moreT v.l sl.l)) (fun _ => True) := by
  refine pureC_intro Try.func81 rfl rfl rfl (fun _ => resL_pure _ _ _) (Nat.le_of_ble_eq_true rfl) fun XC w0 => ?_
  refine p_call (n := 60) C (turned_ok more1_ok v sl hl hl2) rfl rfl fun y _ => ?_
  cases hr : turnedV moreT v.l sl.l with
  | ok l => exact p_ret (n := 60) C Try.func81 rfl rfl rfl rfl y trivial rfl (resL_pure _ _ _)
  | error e => exact p_ret (n := 60) C Try.func81 rfl rfl rfl rfl y trivial rfl (resL_pure _ _ _)
end Go.Proofs.Ytneddobmlcbabaa
