/- A walk by symbols over the given program, a part of it: lemmas alone; what is claimed stands in the last text. No conditions of its own. -/
import Derived.Test.YtneddobmlcbabaaWaI
import Derived.Test.YtneddobmlcbabaaWaD
import Derived.Test.YtneddobmlcbabaaWaE
set_option linter.unusedVariables false
set_option linter.unusedSimpArgs false
namespace Go.Proofs.Ytneddobmlcbabaa
open Go.SE
open Go.RowKit
open Go.PS
set_option maxRecDepth 100000
set_option maxHeartbeats 4000000

/-- the store in which a view is sorted: the row, the shape's box, the slice's box -/
def sOb (s : ShapeD) (L : List FreeD) : List (Nat × Ob) := [(2, .cells [.own 0] 22), (1, .cells s.cs 30), (0, .row 73 4 L.length fun j => (L.getD j default).cs)]
def ltF (s : ShapeD) (x y : FreeD) : Bool := decide (cmpV (fitsF s x) (fitsF s y) > 0)
theorem less_ok (s : ShapeD) (L : List FreeD) (i k : Nat) (hi : i < L.length) (hk : k < L.length) : MutC Try.prog 53 [i64 i, i64 k, .p 1 0, .p 2 0] (sOb s L) 3 Unit (fun _ => bo (ltF s (L.getD i default) (L.getD k default))) (fun _ => sOb s L) (fun _ => 3) (fun _ => True) := by
  refine mutC_intro Try.func53 rfl rfl (Nat.le_of_ble_eq_true rfl) fun XC X0 w0 Ei ga hgh => ?_
  have hi' : (0 : Int) ≤ (i : Int) ∧ (i : Int) < (L.length : Int) := by omega
  have hk' : (0 : Int) ≤ (k : Int) ∧ (k : Int) < (L.length : Int) := by omega
  refine p_at (n := 60) C rfl ?_
  refine p_draw C [] (.t 0 <| .t 1 <| .t 2 <| .t 3 <| .t 4 <| .t 6 <| .t 7 <| .t 8 <| .t 9 <| .t 10 <| .o 5 <| .o 11 <| .o 12 <| .t 13 <| .t 14 .d) (by kernel_rfl) (by kernel_rfl) ?_
  refine d_need C rfl ⟨hi', hi'⟩ ?_
  refine d_need C rfl ⟨hi, hi⟩ ?_
  refine d_need C rfl ⟨hk', hk'⟩ ?_
  refine d_need C rfl ⟨hk, hk⟩ ?_
  refine d_call C (fits_ok s.g s.c s.mn s.mx (L.getD i default).nd (L.getD i default).dm (L.getD i default).m (L.getD i default).c) rfl fun _ _ => ?_
  refine d_call C (fits_ok s.g s.c s.mn s.mx (L.getD k default).nd (L.getD k default).dm (L.getD k default).m (L.getD k default).c) rfl fun _ _ => ?_
  refine d_call C (cmp_ok _ _) rfl fun _ _ => ?_
  refine d_fin C rfl ?_
  exact p_retM (n := 60) C hgh Try.func53 rfl rfl rfl rfl rfl () trivial (Nat.le_refl _) rfl rfl rfl

theorem ext97 (args : Array Value) (W : World) : (callFunc 97 args).run Try.prog W = ((Extern.ReflectliteSwapper.swap false args).run Try.prog W).andThen fun v w' => .ok (.value v) w' :=
  run_callFunc_extern Try.func97 (by kernel_rfl) (by kernel_rfl) (by kernel_rfl) (by kernel_rfl) args W
noncomputable def hF : SV := .v (typeHandle Try.prog 73)
noncomputable def sDat : SV := .a [.f (.func 53) [.p 1 0, .p 2 0], .f (.func 97) [.own 0, hF]]
theorem swapL_row (L : List FreeD) {i j : Nat} (hi : i < L.length) (hj : j < L.length) (k : Nat) : setEl j (L.getD i default).cs (setEl i (L.getD j default).cs fun j => (L.getD j default).cs) k = ((swapL L i j).getD k default).cs := by
  simp only [setEl, swapL, List.getD_eq_getElem?_getD]
  by_cases h1 : k = j
  · subst h1; simp [hj]
  · rw [if_neg h1, List.getElem?_set_ne (Ne.symm h1)]
    by_cases h2 : k = i
    · subst h2; simp [hi]
    · rw [if_neg h2, List.getElem?_set_ne (Ne.symm h2)]
theorem wrapA {a b : Nat} (h : a + b < 9223372036854775807) : IntKind.i64.wrap ((a : Int) + (b : Int)) = ((a + b : Nat) : Int) := by
  simp [IntKind.wrap, IntKind.bits, IntKind.signed]; omega
theorem swR_len : ∀ (n a b : Nat) (L : List FreeD), (swR n a b L).length = L.length
  | 0, _, _, _ => rfl
  | n + 1, a, b, L => by rw [swR, swR_len n, swapL_length]
theorem swR_last : ∀ (n a b : Nat) (L : List FreeD), swR (n + 1) a b L = swapL (swR n a b L) (a + n) (b + n)
  | 0, a, b, L => rfl
  | n + 1, a, b, L => by
    rw [swR, swR_last n]
    show _ = swapL (swR n (a + 1) (b + 1) (swapL L a b)) (a + (n + 1)) (b + (n + 1))
    rw [show a + 1 + n = a + (n + 1) by omega, show b + 1 + n = b + (n + 1) by omega]
theorem swapRange_ok (s : ShapeD) (L : List FreeD) (a b n : Nat) (ha : a + n ≤ L.length) (hb : b + n ≤ L.length) (hL : L.length < 4294967296) : MutC Try.prog 110 [sDat, i64 a, i64 b, i64 n] (sOb s L) 3 Unit (fun _ => .t []) (fun _ => sOb s (swR n a b L)) (fun _ => 3) (fun _ => True) := by
  refine mutC_intro Try.func110 rfl rfl (Nat.le_of_ble_eq_true rfl) fun XC X0 w0 Ei ga hgh => ?_
  refine p_loop (n := 60) C rfl ?_
  let I : Nat → St := fun i => ⟨[(8, i64 (i : Int)), (1, i64 a), (2, i64 b), (3, i64 n), (4, .p 3 0)], (3, .cells [.f (.func 53) [.p 1 0, .p 2 0], .f (.func 97) [.own 0, hF]] 140) :: sOb s (swR i a b L), 23, 4, [], [ghost ga 3]⟩
  have hlen : ∀ i, (swR i a b L).length = L.length := fun i => swR_len i a b L
  refine p_weaken (st1 := I 0) id (p_inv I (fun i => i ≤ n) (fun i => n - i) (fun i hi ih => ?_) 0 (Nat.zero_le _)) (.inl rfl) rfl ⟨rfl, rfl, rfl, rfl, rfl, rfl, rfl, rfl, rfl, rfl, trivial⟩
    ⟨⟨rfl, rfl, rfl⟩, Nat.le_of_ble_eq_true rfl, ⟨rfl, rfl, rfl⟩, Nat.le_of_ble_eq_true rfl, ⟨rfl, rfl, rfl⟩, Nat.le_of_ble_eq_true rfl, ⟨rfl, rfl, rfl, fun _ _ => rfl⟩, Nat.le_of_ble_eq_true rfl, trivial⟩ rfl rfl rfl (sus_ghost (fun _ _ => rfl) (Nat.le_of_ble_eq_true rfl))
  refine p_br (n := 60) C rfl (fun h => ?_) (fun h => ?_)
  · have h : (i : Int) < (n : Int) := of_decide_eq_true h
    have h' : i < n := by omega
    refine p_at (n := 60) C rfl ?_
    refine p_swap C ext97 0 (a + i) (b + i) (e := 73) (k := 4) rfl rfl rfl rfl rfl (wrapA (by omega)) (wrapA (by omega)) rfl rfl (by rw [hlen]; omega) (by rw [hlen]; omega) ?_
    refine p_loop (n := 60) C rfl ?_
    refine p_weaken (st1 := I (i + 1)) id (ih (i + 1) h' (by omega)) (.inl rfl) rfl ⟨?_, rfl, rfl, rfl, rfl, rfl, rfl, rfl, rfl, rfl, trivial⟩
      ⟨⟨rfl, rfl, rfl⟩, Nat.le_of_ble_eq_true rfl, ⟨rfl, rfl, rfl⟩, Nat.le_of_ble_eq_true rfl, ⟨rfl, rfl, rfl⟩, Nat.le_of_ble_eq_true rfl, ⟨rfl, rfl, by show (swR i a b L).length = _; rw [hlen, hlen], fun k hk => ?_⟩, Nat.le_of_ble_eq_true rfl, trivial⟩ rfl rfl rfl (sus_ghost (fun _ _ => rfl) (Nat.le_of_ble_eq_true rfl))
    · show some (i64 _) = some (i64 _)
      rw [wrapN (by omega)]
    · rw [swR_last]
      exact swapL_row _ (by rw [hlen]; omega) (by rw [hlen]; omega) k
  · have h : ¬ (i : Int) < (n : Int) := of_decide_eq_false h
    have hin : i = n := by omega
    subst hin
    refine p_at (n := 60) C rfl ?_
    refine p_weaken (st1 := ⟨[], sOb s (swR i a b L), 23, 3, [], [ghost ga 3]⟩) id ?_ (.inl rfl) rfl trivial ⟨⟨rfl, rfl, rfl⟩, Nat.le_of_ble_eq_true rfl, ⟨rfl, rfl, rfl⟩, Nat.le_of_ble_eq_true rfl, ⟨rfl, rfl, rfl, fun _ _ => rfl⟩, Nat.le_of_ble_eq_true rfl, trivial⟩ rfl rfl rfl (sus_ghost (fun _ _ => rfl) (Nat.le_refl _))
    exact p_retM (n := 60) C hgh Try.func110 rfl rfl rfl rfl rfl () trivial (Nat.le_refl _) rfl rfl rfl
end Go.Proofs.Ytneddobmlcbabaa
namespace Go.Proofs.Ytneddobmlcbabaa
open Go.SE
open Go.RowKit
open Go.PS
set_option maxRecDepth 100000
set_option maxHeartbeats 4000000

theorem wrapS {a b : Nat} (h : b ≤ a) (h2 : a < 9223372036854775807) : IntKind.i64.wrap ((a : Int) - (b : Int)) = ((a - b : Nat) : Int) := by
  simp [IntKind.wrap, IntKind.bits, IntKind.signed]; omega
theorem rot_len (m : Nat) : ∀ (f i j : Nat) (L : List FreeD), (rot m f i j L).length = L.length
  | 0, i, j, L => swR_len _ _ _ _
  | f + 1, i, j, L => by
    simp only [rot]
    split
    · exact swR_len _ _ _ _
    · split
      · rw [rot_len m f, swR_len]
      · rw [rot_len m f, swR_len]
/-- the data's box -/
noncomputable def dBox : Nat × Ob := (3, .cells [.f (.func 53) [.p 1 0, .p 2 0], .f (.func 97) [.own 0, hF]] 140)
theorem rotate_ok (s : ShapeD) (L : List FreeD) (a m b : Nat) (ha : a < m) (hm : m < b) (hb : b ≤ L.length) (hL : L.length < 4294967296) : MutC Try.prog 105 [sDat, i64 a, i64 m, i64 b] (sOb s L) 3 Unit (fun _ => .t []) (fun _ => sOb s (rot m (b - a) (m - a) (b - m) L)) (fun _ => 3) (fun _ => True) := by
  refine mutC_intro Try.func105 rfl rfl (Nat.le_of_ble_eq_true rfl) fun XC X0 w0 Ei ga hgh => ?_
  refine p_loop (n := 60) C rfl ?_
  let I : Nat × Nat × Nat × List FreeD → St := fun x => ⟨[(8, i64 x.2.1), (9, i64 x.2.2.1), (2, i64 m), (4, .p 3 0)], dBox :: sOb s x.2.2.2, 53, 4, [], [ghost ga 3]⟩
  refine p_weaken (st1 := I (b - a, m - a, b - m, L)) id (p_inv I (fun x => rot m x.1 x.2.1 x.2.2.1 x.2.2.2 = rot m (b - a) (m - a) (b - m) L ∧ x.2.2.2.length = L.length ∧ 0 < x.2.1 ∧ 0 < x.2.2.1 ∧ x.2.1 + x.2.2.1 ≤ x.1 ∧ x.2.1 ≤ m ∧ m + x.2.2.1 ≤ L.length) (fun x => x.2.1 + x.2.2.1) (fun x hx ih => ?_) (b - a, m - a, b - m, L) ⟨rfl, rfl, by show 0 < m - a; omega, by show 0 < b - m; omega, by show m - a + (b - m) ≤ b - a; omega, by show m - a ≤ m; omega, by show m + (b - m) ≤ L.length; omega⟩) (.inl rfl) rfl ⟨?_, rfl, ?_, rfl, rfl, rfl, rfl, rfl, trivial⟩
    ⟨⟨rfl, rfl, rfl⟩, Nat.le_of_ble_eq_true rfl, ⟨rfl, rfl, rfl⟩, Nat.le_of_ble_eq_true rfl, ⟨rfl, rfl, rfl⟩, Nat.le_of_ble_eq_true rfl, ⟨rfl, rfl, rfl, fun _ _ => rfl⟩, Nat.le_of_ble_eq_true rfl, trivial⟩ rfl rfl rfl (sus_ghost (fun _ _ => rfl) (Nat.le_of_ble_eq_true rfl))
  rotate_left
  · show some (i64 _) = some (i64 _)
    rw [wrapS (by omega) (by omega)]
  · show some (i64 _) = some (i64 _)
    rw [wrapS (by omega) (by omega)]
  obtain ⟨f, i, j, L1⟩ := x
  obtain ⟨x1, x2, x3, x4, x5, x6, x7⟩ := hx
  simp only at x1 x2 x3 x4 x5 x6 x7
  obtain ⟨f, rfl⟩ : ∃ f', f = f' + 1 := ⟨f - 1, by omega⟩
  refine p_br (n := 60) C rfl (fun h => ?_) (fun h => ?_)
  · have h : ¬ i = j := fun e => by subst e; simp at h
    refine p_br (n := 60) C rfl (fun h2 => ?_) (fun h2 => ?_)
    · have h2 : (i : Int) > (j : Int) := of_decide_eq_true h2
      have h2 : i > j := by omega
      rw [rot, if_neg h, if_pos h2] at x1
      refine p_at (n := 60) C rfl ?_
      refine p_callM C id (swapRange_ok s L1 (m - i) m j (by omega) (by omega) (by omega)) rfl rfl ?_ rfl rfl rfl ⟨⟨rfl, rfl, rfl⟩, Nat.le_of_ble_eq_true rfl, ⟨rfl, rfl, rfl⟩, Nat.le_of_ble_eq_true rfl, ⟨rfl, rfl, rfl, fun _ _ => rfl⟩, Nat.le_of_ble_eq_true rfl, trivial⟩ rfl fun _ _ => ?_
      · show [_, i64 _, _, _] = [_, i64 _, _, _]
        dsimp only
        rw [wrapS (by omega) (by omega)]; rfl
      refine p_loop (n := 60) C rfl ?_
      refine p_weaken (st1 := I (f, i - j, j, swR j (m - i) m L1)) id (ih (f, i - j, j, swR j (m - i) m L1) ⟨x1, by show (swR j (m - i) m L1).length = _; rw [swR_len, x2], by show 0 < i - j; omega, x4, by show i - j + j ≤ f; omega, by show i - j ≤ m; omega, x7⟩ (by show i - j + j < i + j; omega)) (.inl rfl) rfl ⟨?_, rfl, rfl, rfl, rfl, rfl, rfl, rfl, trivial⟩
        ⟨⟨rfl, rfl, rfl⟩, Nat.le_of_ble_eq_true rfl, ⟨rfl, rfl, rfl⟩, Nat.le_of_ble_eq_true rfl, ⟨rfl, rfl, rfl⟩, Nat.le_of_ble_eq_true rfl, ⟨rfl, rfl, rfl, fun _ _ => rfl⟩, Nat.le_of_ble_eq_true rfl, trivial⟩ rfl rfl rfl (sus_ghost (fun _ _ => rfl) (Nat.le_of_ble_eq_true rfl))
      show some (i64 _) = some (i64 _)
      dsimp only
      rw [wrapS (by omega) (by omega)]
    · have h2 : ¬ (i : Int) > (j : Int) := of_decide_eq_false h2
      have h2 : ¬ i > j := by omega
      rw [rot, if_neg h, if_neg h2] at x1
      refine p_at (n := 60) C rfl ?_
      refine p_callM C id (swapRange_ok s L1 (m - i) (m + j - i) i (by omega) (by omega) (by omega)) rfl rfl ?_ rfl rfl rfl ⟨⟨rfl, rfl, rfl⟩, Nat.le_of_ble_eq_true rfl, ⟨rfl, rfl, rfl⟩, Nat.le_of_ble_eq_true rfl, ⟨rfl, rfl, rfl, fun _ _ => rfl⟩, Nat.le_of_ble_eq_true rfl, trivial⟩ rfl fun _ _ => ?_
      · show [_, i64 _, i64 _, _] = [_, i64 _, i64 _, _]
        dsimp only
        rw [wrapA (by omega), wrapS (by omega) (by omega), wrapS (by omega) (by omega)]; rfl
      refine p_loop (n := 60) C rfl ?_
      refine p_weaken (st1 := I (f, i, j - i, swR i (m - i) (m + j - i) L1)) id (ih (f, i, j - i, swR i (m - i) (m + j - i) L1) ⟨x1, by show (swR i (m - i) (m + j - i) L1).length = _; rw [swR_len, x2], x3, by show 0 < j - i; omega, by show i + (j - i) ≤ f; omega, x6, by show m + (j - i) ≤ _; omega⟩ (by show i + (j - i) < i + j; omega)) (.inl rfl) rfl ⟨rfl, rfl, ?_, rfl, rfl, rfl, rfl, rfl, trivial⟩
        ⟨⟨rfl, rfl, rfl⟩, Nat.le_of_ble_eq_true rfl, ⟨rfl, rfl, rfl⟩, Nat.le_of_ble_eq_true rfl, ⟨rfl, rfl, rfl⟩, Nat.le_of_ble_eq_true rfl, ⟨rfl, rfl, rfl, fun _ _ => rfl⟩, Nat.le_of_ble_eq_true rfl, trivial⟩ rfl rfl rfl (sus_ghost (fun _ _ => rfl) (Nat.le_of_ble_eq_true rfl))
      show some (i64 _) = some (i64 _)
      dsimp only
      rw [wrapS (by omega) (by omega)]
  · have h : i = j := by have : (i : Int) = (j : Int) := by simpa using h
                         omega
    rw [rot, if_pos h] at x1
    refine p_at (n := 60) C rfl ?_
    refine p_callM C id (swapRange_ok s L1 (m - i) m i (by omega) (by omega) (by omega)) rfl rfl ?_ rfl rfl rfl ⟨⟨rfl, rfl, rfl⟩, Nat.le_of_ble_eq_true rfl, ⟨rfl, rfl, rfl⟩, Nat.le_of_ble_eq_true rfl, ⟨rfl, rfl, rfl, fun _ _ => rfl⟩, Nat.le_of_ble_eq_true rfl, trivial⟩ rfl fun _ _ => ?_
    · show [_, i64 _, _, _] = [_, i64 _, _, _]
      dsimp only
      rw [wrapS (by omega) (by omega)]; rfl
    rw [x1]
    refine p_at (n := 60) C rfl ?_
    refine p_weaken (st1 := ⟨[], sOb s (rot m (b - a) (m - a) (b - m) L), 53, 3, [], [ghost ga 3]⟩) id ?_ (.inl rfl) rfl trivial ⟨⟨rfl, rfl, rfl⟩, Nat.le_of_ble_eq_true rfl, ⟨rfl, rfl, rfl⟩, Nat.le_of_ble_eq_true rfl, ⟨rfl, rfl, rfl, fun _ _ => rfl⟩, Nat.le_of_ble_eq_true rfl, trivial⟩ rfl rfl rfl (sus_ghost (fun _ _ => rfl) (Nat.le_refl _))
    exact p_retM (n := 60) C hgh Try.func105 rfl rfl rfl rfl rfl () trivial (Nat.le_refl _) rfl rfl rfl
end Go.Proofs.Ytneddobmlcbabaa
namespace Go.Proofs.Ytneddobmlcbabaa
open Go.SE
open Go.RowKit
open Go.PS
set_option maxRecDepth 100000
set_option maxHeartbeats 4000000

theorem sink_len (lt : FreeD → FreeD → Bool) (a : Nat) : ∀ (k : Nat) (L : List FreeD), (sink lt a k L).length = L.length
  | 0, L => rfl
  | k + 1, L => by
    simp only [sink]
    split
    · rw [sink_len lt a k, swapL_length]
    · rfl
theorem insFrom_len (lt : FreeD → FreeD → Bool) (a : Nat) : ∀ (c i : Nat) (L : List FreeD), (insFrom lt a c i L).length = L.length
  | 0, _, L => rfl
  | c + 1, i, L => by simp only [insFrom]; rw [insFrom_len lt a c, sink_len]
theorem insSort_len (lt : FreeD → FreeD → Bool) (a b : Nat) (L : List FreeD) : (insSort lt a b L).length = L.length := insFrom_len _ _ _ _ _
theorem wrapD {j : Nat} (h : j < 9223372036854775807) (h0 : 0 < j) : IntKind.i64.wrap ((j : Int) - 1) = ((j - 1 : Nat) : Int) := by
  simp [IntKind.wrap, IntKind.bits, IntKind.signed]; omega
theorem insertionSort_ok (s : ShapeD) (L : List FreeD) (a b : Nat) (hb : b ≤ L.length) (ha : a ≤ b) (hL : L.length < 4294967296) : MutC Try.prog 98 [sDat, i64 a, i64 b] (sOb s L) 3 Unit (fun _ => .t []) (fun _ => sOb s (insSort (ltF s) a b L)) (fun _ => 3) (fun _ => True) := by
  refine mutC_intro Try.func98 rfl rfl (Nat.le_of_ble_eq_true rfl) fun XC X0 w0 Ei ga hgh => ?_
  refine p_loop (n := 60) C rfl ?_
  let I : Nat × List FreeD → St := fun x => ⟨[(6, i64 x.1), (1, i64 a), (2, i64 b), (3, .p 3 0)], dBox :: sOb s x.2, 35, 4, [], [ghost ga 3]⟩
  refine p_weaken (st1 := I (a + 1, L)) id (p_inv I (fun x => insFrom (ltF s) a (b - x.1) x.1 x.2 = insSort (ltF s) a b L ∧ x.2.length = L.length ∧ a < x.1 ∧ x.1 ≤ b + 1) (fun x => b + 1 - x.1) (fun x hx ih => ?_) (a + 1, L) ⟨rfl, rfl, by show a < a + 1; omega, by show a + 1 ≤ b + 1; omega⟩) (.inl rfl) rfl ⟨?_, rfl, rfl, rfl, rfl, rfl, rfl, rfl, trivial⟩
    ⟨⟨rfl, rfl, rfl⟩, Nat.le_of_ble_eq_true rfl, ⟨rfl, rfl, rfl⟩, Nat.le_of_ble_eq_true rfl, ⟨rfl, rfl, rfl⟩, Nat.le_of_ble_eq_true rfl, ⟨rfl, rfl, rfl, fun _ _ => rfl⟩, Nat.le_of_ble_eq_true rfl, trivial⟩ rfl rfl rfl (sus_ghost (fun _ _ => rfl) (Nat.le_of_ble_eq_true rfl))
  rotate_left
  · show some (i64 _) = some (i64 _)
    dsimp only
    rw [wrapN (by omega)]
  obtain ⟨i, L1⟩ := x
  obtain ⟨x1, x2, x3, x4⟩ := hx
  dsimp only at x1 x2 x3 x4
  refine p_br (n := 60) C rfl (fun h => ?_) (fun h => ?_)
  · have h : (i : Int) < (b : Int) := of_decide_eq_true h
    have h : i < b := by omega
    rw [show b - i = (b - (i + 1)) + 1 by omega, insFrom] at x1
    refine p_loop (n := 60) C rfl ?_
    let J : Nat × List FreeD → St := fun y => ⟨[(7, i64 ((a + y.1 : Nat) : Int)), (6, i64 i), (1, i64 a), (2, i64 b), (3, .p 3 0)], dBox :: sOb s y.2, 35, 4, [], [ghost ga 3]⟩
    refine p_weaken (st1 := J (i - a, L1)) id (p_inv J (fun y => sink (ltF s) a y.1 y.2 = sink (ltF s) a (i - a) L1 ∧ y.2.length = L.length ∧ y.1 ≤ i - a) (fun y => y.1) (fun y hy ih2 => ?_) (i - a, L1) ⟨rfl, x2, Nat.le_refl _⟩) (.inl rfl) rfl ⟨?_, rfl, rfl, rfl, rfl, rfl, rfl, rfl, rfl, rfl, trivial⟩
      ⟨⟨rfl, rfl, rfl⟩, Nat.le_of_ble_eq_true rfl, ⟨rfl, rfl, rfl⟩, Nat.le_of_ble_eq_true rfl, ⟨rfl, rfl, rfl⟩, Nat.le_of_ble_eq_true rfl, ⟨rfl, rfl, rfl, fun _ _ => rfl⟩, Nat.le_of_ble_eq_true rfl, trivial⟩ rfl rfl rfl (sus_ghost (fun _ _ => rfl) (Nat.le_of_ble_eq_true rfl))
    rotate_left
    · show some (i64 _) = some (i64 _)
      dsimp only
      rw [show a + (i - a) = i by omega]
    obtain ⟨k, L2⟩ := y
    obtain ⟨y1, y2, y3⟩ := hy
    dsimp only at y1 y2 y3
    refine p_br (n := 60) C rfl (fun h2 => ?_) (fun h2 => ?_)
    · have h2 : ((a + k : Nat) : Int) > (a : Int) := of_decide_eq_true h2
      obtain ⟨k, rfl⟩ : ∃ k', k = k' + 1 := ⟨k - 1, by omega⟩
      refine p_at (n := 60) C rfl ?_
      refine p_callM C id (less_ok s L2 (a + k + 1) (a + k) (by omega) (by omega)) rfl rfl ?_ rfl rfl rfl ⟨⟨rfl, rfl, rfl⟩, Nat.le_of_ble_eq_true rfl, ⟨rfl, rfl, rfl⟩, Nat.le_of_ble_eq_true rfl, ⟨rfl, rfl, rfl, fun _ _ => rfl⟩, Nat.le_of_ble_eq_true rfl, trivial⟩ rfl fun _ _ => ?_
      · show [_, i64 _, _, _] = [_, i64 _, _, _]
        dsimp only
        rw [wrapD (by omega) (by omega)]; rfl
      refine p_br (n := 60) C rfl (fun h3 => ?_) (fun h3 => ?_)
      · have h3 : ltF s (L2.getD (a + k + 1) default) (L2.getD (a + k) default) = true := by simpa using h3
        rw [sink, if_pos h3] at y1
        refine p_at (n := 60) C rfl ?_
        refine p_swap C ext97 0 (a + k + 1) (a + k) (e := 73) (k := 4) rfl rfl rfl rfl rfl rfl (by dsimp only; rw [wrapD (by omega) (by omega)]; rfl) rfl rfl (by omega) (by omega) ?_
        refine p_loop (n := 60) C rfl ?_
        refine p_weaken (st1 := J (k, swapL L2 (a + k + 1) (a + k))) id (ih2 (k, swapL L2 (a + k + 1) (a + k)) ⟨y1, by show (swapL L2 _ _).length = _; rw [swapL_length, y2], by show k ≤ _; omega⟩ (Nat.lt_succ_self _)) (.inl rfl) rfl ⟨?_, rfl, rfl, rfl, rfl, rfl, rfl, rfl, rfl, rfl, trivial⟩
          ⟨⟨rfl, rfl, rfl⟩, Nat.le_of_ble_eq_true rfl, ⟨rfl, rfl, rfl⟩, Nat.le_of_ble_eq_true rfl, ⟨rfl, rfl, rfl⟩, Nat.le_of_ble_eq_true rfl, ⟨rfl, rfl, (swapL_length _ _ _).symm, fun q hq => swapL_row _ (by omega) (by omega) q⟩, Nat.le_of_ble_eq_true rfl, trivial⟩ rfl rfl rfl (sus_ghost (fun _ _ => rfl) (Nat.le_of_ble_eq_true rfl))
        show some (i64 _) = some (i64 _)
        dsimp only
        rw [wrapD (by omega) (by omega)]; rfl
      · have h3 : ¬ ltF s (L2.getD (a + k + 1) default) (L2.getD (a + k) default) = true := by simpa using h3
        rw [sink, if_neg h3] at y1
        rw [← y1] at x1
        refine p_loop (n := 60) C rfl ?_
        refine p_weaken (st1 := I (i + 1, L2)) id (ih (i + 1, L2) ⟨x1, y2, by show a < i + 1; omega, by show i + 1 ≤ b + 1; omega⟩ (by show b + 1 - (i + 1) < b + 1 - i; omega)) (.inl rfl) rfl ⟨?_, rfl, rfl, rfl, rfl, rfl, rfl, rfl, trivial⟩
          ⟨⟨rfl, rfl, rfl⟩, Nat.le_of_ble_eq_true rfl, ⟨rfl, rfl, rfl⟩, Nat.le_of_ble_eq_true rfl, ⟨rfl, rfl, rfl⟩, Nat.le_of_ble_eq_true rfl, ⟨rfl, rfl, rfl, fun _ _ => rfl⟩, Nat.le_of_ble_eq_true rfl, trivial⟩ rfl rfl rfl (sus_ghost (fun _ _ => rfl) (Nat.le_of_ble_eq_true rfl))
        show some (i64 _) = some (i64 _)
        dsimp only
        rw [wrapN (by omega)]
    · have h2 : ¬ ((a + k : Nat) : Int) > (a : Int) := of_decide_eq_false h2
      have hk : k = 0 := by omega
      subst hk
      rw [sink] at y1
      rw [← y1] at x1
      refine p_br (n := 60) C rfl (fun h => absurd h (by decide)) (fun _ => ?_)
      refine p_loop (n := 60) C rfl ?_
      refine p_weaken (st1 := I (i + 1, L2)) id (ih (i + 1, L2) ⟨x1, y2, by show a < i + 1; omega, by show i + 1 ≤ b + 1; omega⟩ (by show b + 1 - (i + 1) < b + 1 - i; omega)) (.inl rfl) rfl ⟨?_, rfl, rfl, rfl, rfl, rfl, rfl, rfl, trivial⟩
        ⟨⟨rfl, rfl, rfl⟩, Nat.le_of_ble_eq_true rfl, ⟨rfl, rfl, rfl⟩, Nat.le_of_ble_eq_true rfl, ⟨rfl, rfl, rfl⟩, Nat.le_of_ble_eq_true rfl, ⟨rfl, rfl, rfl, fun _ _ => rfl⟩, Nat.le_of_ble_eq_true rfl, trivial⟩ rfl rfl rfl (sus_ghost (fun _ _ => rfl) (Nat.le_of_ble_eq_true rfl))
      show some (i64 _) = some (i64 _)
      dsimp only
      rw [wrapN (by omega)]
  · have h : ¬ (i : Int) < (b : Int) := of_decide_eq_false h
    rw [show b - i = 0 by omega, insFrom] at x1
    rw [← x1]
    refine p_at (n := 60) C rfl ?_
    refine p_weaken (st1 := ⟨[], sOb s L1, 35, 3, [], [ghost ga 3]⟩) id ?_ (.inl rfl) rfl trivial ⟨⟨rfl, rfl, rfl⟩, Nat.le_of_ble_eq_true rfl, ⟨rfl, rfl, rfl⟩, Nat.le_of_ble_eq_true rfl, ⟨rfl, rfl, rfl, fun _ _ => rfl⟩, Nat.le_of_ble_eq_true rfl, trivial⟩ rfl rfl rfl (sus_ghost (fun _ _ => rfl) (Nat.le_refl _))
    exact p_retM (n := 60) C hgh Try.func98 rfl rfl rfl rfl rfl () trivial (Nat.le_refl _) rfl rfl rfl
end Go.Proofs.Ytneddobmlcbabaa
namespace Go.Proofs.Ytneddobmlcbabaa
open Go.SE
open Go.RowKit
open Go.PS
set_option maxRecDepth 100000
set_option maxHeartbeats 4000000

theorem wrapH {i j : Nat} (h : i + j < 9223372036854775807) : IntKind.i64.wrap ((IntKind.u64.wrap (IntKind.i64.wrap ((i : Int) + (j : Int)))).fdiv (2 ^ (min (Int.toNat 1) IntKind.u64.bits))) = (((i + j) / 2 : Nat) : Int) := by
  have e : (2 : Int) ^ (min (Int.toNat 1) IntKind.u64.bits) = 2 := by decide
  rw [e, Int.fdiv_eq_ediv_of_nonneg _ (by decide)]
  simp only [IntKind.wrap, IntKind.bits, IntKind.signed]
  simp
  omega
theorem bs_stop (p : Nat → Bool) (f i : Nat) : bs p f i i = i := by
  cases f with
  | zero => rfl
  | succ f => simp [bs]
theorem shUp_len : ∀ (c k : Nat) (L : List FreeD), (shUp c k L).length = L.length
  | 0, _, _ => rfl
  | c + 1, k, L => by rw [shUp, shUp_len c, swapL_length]
theorem shDn_len : ∀ (c k : Nat) (L : List FreeD), (shDn c k L).length = L.length
  | 0, _, _ => rfl
  | c + 1, k, L => by rw [shDn, shDn_len c, swapL_length]
theorem symM_len (lt : FreeD → FreeD → Bool) : ∀ (f a m b : Nat) (L : List FreeD), (symM lt f a m b L).length = L.length
  | 0, _, _, _, _ => rfl
  | f + 1, a, m, b, L => by
    simp only [symM]
    split
    · exact shUp_len _ _ _
    · split
      · exact shDn_len _ _ _
      · repeat' split
        all_goals simp only [symM_len lt f, rot_len]
noncomputable def tailA : Code := match Try.f99.body with
  | some c => sq (sq (sq (sq (sq (sq (sq c))))))
  | none => .skip
noncomputable def tailB : Code := sq (sq (sq (sq tailA)))
noncomputable def tailC : Code := sq tailB
def L1x (m sS e : Nat) (L : List FreeD) : List FreeD := if sS < m ∧ m < e then rot m (e - sS) (m - sS) (e - m) L else L
def L2x (lt : FreeD → FreeD → Bool) (f a sS mid : Nat) (L : List FreeD) : List FreeD := if a < sS ∧ sS < mid then symM lt f a sS mid L else L
def L3x (lt : FreeD → FreeD → Bool) (f mid e b : Nat) (L : List FreeD) : List FreeD := if mid < e ∧ e < b then symM lt f mid e b L else L
theorem symM_big (lt : FreeD → FreeD → Bool) (f a m b : Nat) (L : List FreeD) (h1 : ¬ m - a = 1) (h2 : ¬ b - m = 1) : symM lt (f + 1) a m b L = L3x lt f ((a + b) / 2) ((a + b) / 2 + m - symS lt a m b L) b (L2x lt f a (symS lt a m b L) ((a + b) / 2) (L1x m (symS lt a m b L) ((a + b) / 2 + m - symS lt a m b L) L)) := by
  simp only [symM, if_neg h1, if_neg h2]
  rfl
theorem symMerge_ok (s : ShapeD) : ∀ (f a m b : Nat) (L : List FreeD), a < m → m < b → b ≤ L.length → L.length < 4294967296 → b - a ≤ f → MutC Try.prog 99 [sDat, i64 a, i64 m, i64 b] (sOb s L) 3 Unit (fun _ => .t []) (fun _ => sOb s (symM (ltF s) f a m b L)) (fun _ => 3) (fun _ => True) := by
  intro f
  induction f with
  | zero => intro a m b L h1 h2 _ _ h; omega
  | succ f ih =>
  intro a m b L ha hm hb hL hf
  refine mutC_intro Try.func99 rfl rfl (Nat.le_of_ble_eq_true rfl) fun XC X0 w0 Ei ga hgh => ?_
  refine p_br (n := 60) C rfl (fun h1 => ?_) (fun h1 => ?_)
  · have h1 : m - a = 1 := by
      have h1 : IntKind.i64.wrap ((m : Int) - (a : Int)) = 1 := by simpa using h1
      rw [wrapS (by omega) (by omega)] at h1
      omega
    have htgt : symM (ltF s) (f + 1) a m b L = shUp (bs (fun h => ltF s (L.getD h default) (L.getD a default)) (b - a) m b - 1 - a) a L := by simp only [symM, if_pos h1]
    refine p_loop (n := 60) C rfl ?_
    let I : Nat × Nat × Nat → St := fun x => ⟨[(8, i64 x.2.1), (9, i64 x.2.2), (1, i64 a), (2, i64 m), (3, i64 b), (4, .p 3 0)], dBox :: sOb s L, 177, 4, [], [ghost ga 3]⟩
    refine p_weaken (st1 := I (b - a, m, b)) id (p_inv I (fun x => bs (fun h => ltF s (L.getD h default) (L.getD a default)) x.1 x.2.1 x.2.2 = bs (fun h => ltF s (L.getD h default) (L.getD a default)) (b - a) m b ∧ m ≤ x.2.1 ∧ x.2.1 ≤ x.2.2 ∧ x.2.2 ≤ b ∧ x.2.2 - x.2.1 ≤ x.1) (fun x => x.2.2 - x.2.1) (fun x hx ih2 => ?_) (b - a, m, b) ⟨rfl, Nat.le_refl _, by show m ≤ b; omega, Nat.le_refl _, by show b - m ≤ b - a; omega⟩) (.inl rfl) rfl ⟨rfl, rfl, rfl, rfl, rfl, rfl, rfl, rfl, rfl, rfl, rfl, rfl, trivial⟩
      ⟨⟨rfl, rfl, rfl⟩, Nat.le_of_ble_eq_true rfl, ⟨rfl, rfl, rfl⟩, Nat.le_of_ble_eq_true rfl, ⟨rfl, rfl, rfl⟩, Nat.le_of_ble_eq_true rfl, ⟨rfl, rfl, rfl, fun _ _ => rfl⟩, Nat.le_of_ble_eq_true rfl, trivial⟩ rfl rfl rfl (sus_ghost (fun _ _ => rfl) (Nat.le_of_ble_eq_true rfl))
    obtain ⟨f1, i, j⟩ := x
    obtain ⟨x1, x2, x3, x4, x5⟩ := hx
    dsimp only at x1 x2 x3 x4 x5
    refine p_br (n := 60) C rfl (fun hq3 => ?_) (fun hq3 => ?_)
    · have h3 : (i : Int) < (j : Int) := of_decide_eq_true hq3
      have h3 : i < j := by omega
      obtain ⟨f1, rfl⟩ : ∃ f', f1 = f' + 1 := ⟨f1 - 1, by omega⟩
      rw [bs, if_pos h3] at x1
      obtain ⟨hh1, hh2⟩ : i ≤ (i + j) / 2 ∧ (i + j) / 2 < j := by omega
      refine p_need (n := 60) C rfl (by decide) ?_
      refine p_at (n := 60) C rfl ?_
      refine p_callM C id (less_ok s L ((i + j) / 2) a (by omega) (by omega)) rfl rfl ?_ rfl rfl rfl ⟨⟨rfl, rfl, rfl⟩, Nat.le_of_ble_eq_true rfl, ⟨rfl, rfl, rfl⟩, Nat.le_of_ble_eq_true rfl, ⟨rfl, rfl, rfl, fun _ _ => rfl⟩, Nat.le_of_ble_eq_true rfl, trivial⟩ rfl fun _ _ => ?_
      · show [i64 _, i64 _, _, _] = [i64 _, i64 _, _, _]
        dsimp only
        rw [wrapH (by omega)]; rfl
      have hx1 := x1
      refine p_br (n := 60) C rfl (fun h4 => ?_) (fun h4 => ?_)
      · have h4 : ltF s (L.getD ((i + j) / 2) default) (L.getD a default) = true := by simpa using h4
        rw [if_pos (by rw [h4])] at hx1
        refine p_loop (n := 60) C rfl ?_
        refine p_weaken (st1 := I (f1, (i + j) / 2 + 1, j)) id (ih2 (f1, (i + j) / 2 + 1, j) ⟨hx1, by show m ≤ (i + j) / 2 + 1; omega, by show (i + j) / 2 + 1 ≤ j; omega, x4, by show j - ((i + j) / 2 + 1) ≤ f1; omega⟩ (by show j - ((i + j) / 2 + 1) < j - i; omega)) (.inl rfl) rfl ⟨?_, rfl, rfl, rfl, rfl, rfl, rfl, rfl, rfl, rfl, rfl, rfl, trivial⟩
          ⟨⟨rfl, rfl, rfl⟩, Nat.le_of_ble_eq_true rfl, ⟨rfl, rfl, rfl⟩, Nat.le_of_ble_eq_true rfl, ⟨rfl, rfl, rfl⟩, Nat.le_of_ble_eq_true rfl, ⟨rfl, rfl, rfl, fun _ _ => rfl⟩, Nat.le_of_ble_eq_true rfl, trivial⟩ rfl rfl rfl (sus_ghost (fun _ _ => rfl) (Nat.le_of_ble_eq_true rfl))
        show some (i64 _) = some (i64 _)
        dsimp only
        rw [wrapH (by omega), wrapN (by omega)]
      · have h4 : ltF s (L.getD ((i + j) / 2) default) (L.getD a default) = false := by simpa using h4
        rw [if_neg (by rw [h4]; simp)] at hx1
        refine p_loop (n := 60) C rfl ?_
        refine p_weaken (st1 := I (f1, i, (i + j) / 2)) id (ih2 (f1, i, (i + j) / 2) ⟨hx1, x2, by show i ≤ (i + j) / 2; omega, by show (i + j) / 2 ≤ b; omega, by show (i + j) / 2 - i ≤ f1; omega⟩ (by show (i + j) / 2 - i < j - i; omega)) (.inl rfl) rfl ⟨rfl, rfl, ?_, rfl, rfl, rfl, rfl, rfl, rfl, rfl, rfl, rfl, trivial⟩
          ⟨⟨rfl, rfl, rfl⟩, Nat.le_of_ble_eq_true rfl, ⟨rfl, rfl, rfl⟩, Nat.le_of_ble_eq_true rfl, ⟨rfl, rfl, rfl⟩, Nat.le_of_ble_eq_true rfl, ⟨rfl, rfl, rfl, fun _ _ => rfl⟩, Nat.le_of_ble_eq_true rfl, trivial⟩ rfl rfl rfl (sus_ghost (fun _ _ => rfl) (Nat.le_of_ble_eq_true rfl))
        show some (i64 _) = some (i64 _)
        dsimp only
        rw [wrapH (by omega)]
    · have h3 : ¬ (i : Int) < (j : Int) := of_decide_eq_false hq3
      have hij : i = j := by omega
      subst hij
      rw [bs_stop] at x1
      refine p_loop (n := 60) C rfl ?_
      let J : Nat × List FreeD → St := fun x => ⟨[(11, i64 x.1), (8, i64 i), (4, .p 3 0)], dBox :: sOb s x.2, 177, 4, [], [ghost ga 3]⟩
      refine p_weaken (st1 := J (a, L)) id (p_inv J (fun x => shUp (i - 1 - x.1) x.1 x.2 = symM (ltF s) (f + 1) a m b L ∧ x.2.length = L.length ∧ a ≤ x.1) (fun x => i - x.1) (fun x hx ih3 => ?_) (a, L) ⟨by rw [htgt, ← x1], rfl, Nat.le_refl _⟩) (.inl rfl) rfl ⟨rfl, rfl, rfl, rfl, rfl, rfl, trivial⟩
        ⟨⟨rfl, rfl, rfl⟩, Nat.le_of_ble_eq_true rfl, ⟨rfl, rfl, rfl⟩, Nat.le_of_ble_eq_true rfl, ⟨rfl, rfl, rfl⟩, Nat.le_of_ble_eq_true rfl, ⟨rfl, rfl, rfl, fun _ _ => rfl⟩, Nat.le_of_ble_eq_true rfl, trivial⟩ rfl rfl rfl (sus_ghost (fun _ _ => rfl) (Nat.le_of_ble_eq_true rfl))
      obtain ⟨k, L2⟩ := x
      obtain ⟨y1, y2, y3⟩ := hx
      dsimp only at y1 y2 y3
      refine p_br (n := 60) C rfl (fun h5 => ?_) (fun h5 => ?_)
      · have h5 : (k : Int) < IntKind.i64.wrap ((i : Int) - 1) := of_decide_eq_true h5
        rw [wrapD (by omega) (by omega)] at h5
        rw [show i - 1 - k = (i - 1 - (k + 1)) + 1 by omega, shUp] at y1
        refine p_at (n := 60) C rfl ?_
        refine p_swap C ext97 0 k (k + 1) (e := 73) (k := 4) rfl rfl rfl rfl rfl rfl (by dsimp only; rw [wrapN (by omega)]) rfl rfl (by show k < L2.length; omega) (by show k + 1 < L2.length; omega) ?_
        refine p_loop (n := 60) C rfl ?_
        refine p_weaken (st1 := J (k + 1, swapL L2 k (k + 1))) id (ih3 (k + 1, swapL L2 k (k + 1)) ⟨y1, by show (swapL L2 _ _).length = _; rw [swapL_length, y2], by show a ≤ k + 1; omega⟩ (by show i - (k + 1) < i - k; omega)) (.inl rfl) rfl ⟨?_, rfl, rfl, rfl, rfl, rfl, trivial⟩
          ⟨⟨rfl, rfl, rfl⟩, Nat.le_of_ble_eq_true rfl, ⟨rfl, rfl, rfl⟩, Nat.le_of_ble_eq_true rfl, ⟨rfl, rfl, rfl⟩, Nat.le_of_ble_eq_true rfl, ⟨rfl, rfl, (swapL_length _ _ _).symm, fun q hq => swapL_row L2 (by omega) (by omega) q⟩, Nat.le_of_ble_eq_true rfl, trivial⟩ rfl rfl rfl (sus_ghost (fun _ _ => rfl) (Nat.le_of_ble_eq_true rfl))
        show some (i64 _) = some (i64 _)
        dsimp only
        rw [wrapN (by omega)]
      · have h5 : ¬ (k : Int) < IntKind.i64.wrap ((i : Int) - 1) := of_decide_eq_false h5
        rw [wrapD (by omega) (by omega)] at h5
        rw [show i - 1 - k = 0 by omega, shUp] at y1
        subst y1
        refine p_at (n := 60) C rfl ?_
        refine p_weaken (st1 := ⟨[], sOb s (symM (ltF s) (f + 1) a m b L), 177, 3, [], [ghost ga 3]⟩) id ?_ (.inl rfl) rfl trivial ⟨⟨rfl, rfl, rfl⟩, Nat.le_of_ble_eq_true rfl, ⟨rfl, rfl, rfl⟩, Nat.le_of_ble_eq_true rfl, ⟨rfl, rfl, rfl, fun _ _ => rfl⟩, Nat.le_of_ble_eq_true rfl, trivial⟩ rfl rfl rfl (sus_ghost (fun _ _ => rfl) (Nat.le_refl _))
        exact p_retM (n := 60) C hgh Try.func99 rfl rfl rfl rfl rfl () trivial (Nat.le_refl _) rfl rfl rfl
  have h1 : ¬ m - a = 1 := by
    have h1 : ¬ IntKind.i64.wrap ((m : Int) - (a : Int)) = 1 := by simpa using h1
    rw [wrapS (by omega) (by omega)] at h1
    omega
  refine p_br (n := 60) C rfl (fun h2 => ?_) (fun h2 => ?_)
  · have h2 : b - m = 1 := by
      have h2 : IntKind.i64.wrap ((b : Int) - (m : Int)) = 1 := by simpa using h2
      rw [wrapS (by omega) (by omega)] at h2
      omega
    have htgt : symM (ltF s) (f + 1) a m b L = shDn (m - bs (fun h => !ltF s (L.getD m default) (L.getD h default)) (b - a) a m) m L := by simp only [symM, if_neg h1, if_pos h2]
    refine p_loop (n := 60) C rfl ?_
    let I : Nat × Nat × Nat → St := fun x => ⟨[(12, i64 x.2.1), (13, i64 x.2.2), (1, i64 a), (2, i64 m), (3, i64 b), (4, .p 3 0)], dBox :: sOb s L, 177, 4, [], [ghost ga 3]⟩
    refine p_weaken (st1 := I (b - a, a, m)) id (p_inv I (fun x => bs (fun h => !ltF s (L.getD m default) (L.getD h default)) x.1 x.2.1 x.2.2 = bs (fun h => !ltF s (L.getD m default) (L.getD h default)) (b - a) a m ∧ a ≤ x.2.1 ∧ x.2.1 ≤ x.2.2 ∧ x.2.2 ≤ m ∧ x.2.2 - x.2.1 ≤ x.1) (fun x => x.2.2 - x.2.1) (fun x hx ih2 => ?_) (b - a, a, m) ⟨rfl, Nat.le_refl _, by show a ≤ m; omega, Nat.le_refl _, by show m - a ≤ b - a; omega⟩) (.inl rfl) rfl ⟨rfl, rfl, rfl, rfl, rfl, rfl, rfl, rfl, rfl, rfl, rfl, rfl, trivial⟩
      ⟨⟨rfl, rfl, rfl⟩, Nat.le_of_ble_eq_true rfl, ⟨rfl, rfl, rfl⟩, Nat.le_of_ble_eq_true rfl, ⟨rfl, rfl, rfl⟩, Nat.le_of_ble_eq_true rfl, ⟨rfl, rfl, rfl, fun _ _ => rfl⟩, Nat.le_of_ble_eq_true rfl, trivial⟩ rfl rfl rfl (sus_ghost (fun _ _ => rfl) (Nat.le_of_ble_eq_true rfl))
    obtain ⟨f1, i, j⟩ := x
    obtain ⟨x1, x2, x3, x4, x5⟩ := hx
    dsimp only at x1 x2 x3 x4 x5
    refine p_br (n := 60) C rfl (fun hq3 => ?_) (fun hq3 => ?_)
    · have h3 : (i : Int) < (j : Int) := of_decide_eq_true hq3
      have h3 : i < j := by omega
      obtain ⟨f1, rfl⟩ : ∃ f', f1 = f' + 1 := ⟨f1 - 1, by omega⟩
      rw [bs, if_pos h3] at x1
      obtain ⟨hh1, hh2⟩ : i ≤ (i + j) / 2 ∧ (i + j) / 2 < j := by omega
      refine p_need (n := 60) C rfl (by decide) ?_
      refine p_at (n := 60) C rfl ?_
      refine p_callM C id (less_ok s L m ((i + j) / 2) (by omega) (by omega)) rfl rfl ?_ rfl rfl rfl ⟨⟨rfl, rfl, rfl⟩, Nat.le_of_ble_eq_true rfl, ⟨rfl, rfl, rfl⟩, Nat.le_of_ble_eq_true rfl, ⟨rfl, rfl, rfl, fun _ _ => rfl⟩, Nat.le_of_ble_eq_true rfl, trivial⟩ rfl fun _ _ => ?_
      · show [i64 _, i64 _, _, _] = [i64 _, i64 _, _, _]
        dsimp only
        rw [wrapH (by omega)]; rfl
      have hx1 := x1
      refine p_br (n := 60) C rfl (fun h4 => ?_) (fun h4 => ?_)
      · have h4 : ltF s (L.getD m default) (L.getD ((i + j) / 2) default) = false := by simpa using h4
        rw [if_pos (by rw [h4]; rfl)] at hx1
        refine p_loop (n := 60) C rfl ?_
        refine p_weaken (st1 := I (f1, (i + j) / 2 + 1, j)) id (ih2 (f1, (i + j) / 2 + 1, j) ⟨hx1, by show a ≤ (i + j) / 2 + 1; omega, by show (i + j) / 2 + 1 ≤ j; omega, x4, by show j - ((i + j) / 2 + 1) ≤ f1; omega⟩ (by show j - ((i + j) / 2 + 1) < j - i; omega)) (.inl rfl) rfl ⟨?_, rfl, rfl, rfl, rfl, rfl, rfl, rfl, rfl, rfl, rfl, rfl, trivial⟩
          ⟨⟨rfl, rfl, rfl⟩, Nat.le_of_ble_eq_true rfl, ⟨rfl, rfl, rfl⟩, Nat.le_of_ble_eq_true rfl, ⟨rfl, rfl, rfl⟩, Nat.le_of_ble_eq_true rfl, ⟨rfl, rfl, rfl, fun _ _ => rfl⟩, Nat.le_of_ble_eq_true rfl, trivial⟩ rfl rfl rfl (sus_ghost (fun _ _ => rfl) (Nat.le_of_ble_eq_true rfl))
        show some (i64 _) = some (i64 _)
        dsimp only
        rw [wrapH (by omega), wrapN (by omega)]
      · have h4 : ltF s (L.getD m default) (L.getD ((i + j) / 2) default) = true := by simpa using h4
        rw [if_neg (by rw [h4]; simp)] at hx1
        refine p_loop (n := 60) C rfl ?_
        refine p_weaken (st1 := I (f1, i, (i + j) / 2)) id (ih2 (f1, i, (i + j) / 2) ⟨hx1, x2, by show i ≤ (i + j) / 2; omega, by show (i + j) / 2 ≤ m; omega, by show (i + j) / 2 - i ≤ f1; omega⟩ (by show (i + j) / 2 - i < j - i; omega)) (.inl rfl) rfl ⟨rfl, rfl, ?_, rfl, rfl, rfl, rfl, rfl, rfl, rfl, rfl, rfl, trivial⟩
          ⟨⟨rfl, rfl, rfl⟩, Nat.le_of_ble_eq_true rfl, ⟨rfl, rfl, rfl⟩, Nat.le_of_ble_eq_true rfl, ⟨rfl, rfl, rfl⟩, Nat.le_of_ble_eq_true rfl, ⟨rfl, rfl, rfl, fun _ _ => rfl⟩, Nat.le_of_ble_eq_true rfl, trivial⟩ rfl rfl rfl (sus_ghost (fun _ _ => rfl) (Nat.le_of_ble_eq_true rfl))
        show some (i64 _) = some (i64 _)
        dsimp only
        rw [wrapH (by omega)]
    · have h3 : ¬ (i : Int) < (j : Int) := of_decide_eq_false hq3
      have hij : i = j := by omega
      subst hij
      rw [bs_stop] at x1
      refine p_loop (n := 60) C rfl ?_
      let J : Nat × List FreeD → St := fun x => ⟨[(15, i64 x.1), (12, i64 i), (4, .p 3 0)], dBox :: sOb s x.2, 177, 4, [], [ghost ga 3]⟩
      refine p_weaken (st1 := J (m, L)) id (p_inv J (fun x => shDn (x.1 - i) x.1 x.2 = symM (ltF s) (f + 1) a m b L ∧ x.2.length = L.length ∧ x.1 ≤ m ∧ i ≤ x.1) (fun x => x.1 - i) (fun x hx ih3 => ?_) (m, L) ⟨by rw [htgt, ← x1], rfl, Nat.le_refl _, by show i ≤ m; omega⟩) (.inl rfl) rfl ⟨rfl, rfl, rfl, rfl, rfl, rfl, trivial⟩
        ⟨⟨rfl, rfl, rfl⟩, Nat.le_of_ble_eq_true rfl, ⟨rfl, rfl, rfl⟩, Nat.le_of_ble_eq_true rfl, ⟨rfl, rfl, rfl⟩, Nat.le_of_ble_eq_true rfl, ⟨rfl, rfl, rfl, fun _ _ => rfl⟩, Nat.le_of_ble_eq_true rfl, trivial⟩ rfl rfl rfl (sus_ghost (fun _ _ => rfl) (Nat.le_of_ble_eq_true rfl))
      obtain ⟨k, L2⟩ := x
      obtain ⟨y1, y2, y3, y4⟩ := hx
      dsimp only at y1 y2 y3 y4
      refine p_br (n := 60) C rfl (fun h5 => ?_) (fun h5 => ?_)
      · have h5 : (k : Int) > (i : Int) := of_decide_eq_true h5
        rw [show k - i = (k - 1 - i) + 1 by omega, shDn] at y1
        refine p_at (n := 60) C rfl ?_
        refine p_swap C ext97 0 k (k - 1) (e := 73) (k := 4) rfl rfl rfl rfl rfl rfl (by dsimp only; rw [wrapD (by omega) (by omega)]) rfl rfl (by show k < L2.length; omega) (by show k - 1 < L2.length; omega) ?_
        refine p_loop (n := 60) C rfl ?_
        refine p_weaken (st1 := J (k - 1, swapL L2 k (k - 1))) id (ih3 (k - 1, swapL L2 k (k - 1)) ⟨y1, by show (swapL L2 _ _).length = _; rw [swapL_length, y2], by show k - 1 ≤ m; omega, by show i ≤ k - 1; omega⟩ (by show k - 1 - i < k - i; omega)) (.inl rfl) rfl ⟨?_, rfl, rfl, rfl, rfl, rfl, trivial⟩
          ⟨⟨rfl, rfl, rfl⟩, Nat.le_of_ble_eq_true rfl, ⟨rfl, rfl, rfl⟩, Nat.le_of_ble_eq_true rfl, ⟨rfl, rfl, rfl⟩, Nat.le_of_ble_eq_true rfl, ⟨rfl, rfl, (swapL_length _ _ _).symm, fun q hq => swapL_row L2 (by omega) (by omega) q⟩, Nat.le_of_ble_eq_true rfl, trivial⟩ rfl rfl rfl (sus_ghost (fun _ _ => rfl) (Nat.le_of_ble_eq_true rfl))
        show some (i64 _) = some (i64 _)
        dsimp only
        rw [wrapD (by omega) (by omega)]
      · have h5 : ¬ (k : Int) > (i : Int) := of_decide_eq_false h5
        rw [show k - i = 0 by omega, shDn] at y1
        subst y1
        refine p_at (n := 60) C rfl ?_
        refine p_weaken (st1 := ⟨[], sOb s (symM (ltF s) (f + 1) a m b L), 177, 3, [], [ghost ga 3]⟩) id ?_ (.inl rfl) rfl trivial ⟨⟨rfl, rfl, rfl⟩, Nat.le_of_ble_eq_true rfl, ⟨rfl, rfl, rfl⟩, Nat.le_of_ble_eq_true rfl, ⟨rfl, rfl, rfl, fun _ _ => rfl⟩, Nat.le_of_ble_eq_true rfl, trivial⟩ rfl rfl rfl (sus_ghost (fun _ _ => rfl) (Nat.le_refl _))
        exact p_retM (n := 60) C hgh Try.func99 rfl rfl rfl rfl rfl () trivial (Nat.le_refl _) rfl rfl rfl
  have h2 : ¬ b - m = 1 := by
    have h2 : ¬ IntKind.i64.wrap ((b : Int) - (m : Int)) = 1 := by simpa using h2
    rw [wrapS (by omega) (by omega)] at h2
    omega
  obtain ⟨mid, hmid⟩ : ∃ mid, mid = (a + b) / 2 := ⟨_, rfl⟩
  have KC : ∀ (sS e : Nat) (L3 : List FreeD), L3.length = L.length → m ≤ e ∨ mid ≤ e → e ≤ b → L3x (ltF s) f mid e b L3 = symM (ltF s) (f + 1) a m b L → QS Try.prog XC X0 w0 (frm 99) [] 99 (RM (fun _ : Unit => SV.t []) (fun _ => sOb s (symM (ltF s) (f + 1) a m b L)) (fun _ => 3) (fun _ => True) XC X0 w0 Ei 3) [.code tailC] [] ⟨[(1, i64 a), (3, i64 b), (4, .p 3 0), (16, i64 mid), (22, i64 e)], dBox :: sOb s L3, 177, 4, [], [ghost ga 3]⟩ := fun sS e L3 hl he0 he htg => by
    refine p_br (n := 60) C rfl (fun q1 => ?_) (fun q1 => ?_)
    · have q1 : (mid : Int) < (e : Int) := of_decide_eq_true q1
      have q1 : mid < e := by omega
      refine p_br (n := 60) C rfl (fun q2 => ?_) (fun q2 => ?_)
      · have q2 : (e : Int) < (b : Int) := of_decide_eq_true q2
        have q2 : e < b := by omega
        refine p_at (n := 60) C rfl ?_
        refine p_callM C id (ih mid e b L3 q1 q2 (by omega) (by omega) (by omega)) rfl rfl rfl rfl rfl rfl ⟨⟨rfl, rfl, rfl⟩, Nat.le_of_ble_eq_true rfl, ⟨rfl, rfl, rfl⟩, Nat.le_of_ble_eq_true rfl, ⟨rfl, rfl, rfl, fun _ _ => rfl⟩, Nat.le_of_ble_eq_true rfl, trivial⟩ rfl fun _ _ => ?_
        rw [L3x, if_pos ⟨q1, q2⟩] at htg
        rw [htg]
        refine p_at (n := 60) C rfl ?_
        refine p_weaken (st1 := ⟨[], sOb s (symM (ltF s) (f + 1) a m b L), 177, 3, [], [ghost ga 3]⟩) id ?_ (.inl rfl) rfl trivial ⟨⟨rfl, rfl, rfl⟩, Nat.le_of_ble_eq_true rfl, ⟨rfl, rfl, rfl⟩, Nat.le_of_ble_eq_true rfl, ⟨rfl, rfl, rfl, fun _ _ => rfl⟩, Nat.le_of_ble_eq_true rfl, trivial⟩ rfl rfl rfl (sus_ghost (fun _ _ => rfl) (Nat.le_refl _))
        exact p_retM (n := 60) C hgh Try.func99 rfl rfl rfl rfl rfl () trivial (Nat.le_refl _) rfl rfl rfl
    
      · have q2 : ¬ (e : Int) < (b : Int) := of_decide_eq_false q2
        have q2 : ¬ (mid < e ∧ e < b) := by omega
        rw [L3x, if_neg q2] at htg
        subst htg
        refine p_at (n := 60) C rfl ?_
        refine p_weaken (st1 := ⟨[], sOb s (symM (ltF s) (f + 1) a m b L), 177, 3, [], [ghost ga 3]⟩) id ?_ (.inl rfl) rfl trivial ⟨⟨rfl, rfl, rfl⟩, Nat.le_of_ble_eq_true rfl, ⟨rfl, rfl, rfl⟩, Nat.le_of_ble_eq_true rfl, ⟨rfl, rfl, rfl, fun _ _ => rfl⟩, Nat.le_of_ble_eq_true rfl, trivial⟩ rfl rfl rfl (sus_ghost (fun _ _ => rfl) (Nat.le_refl _))
        exact p_retM (n := 60) C hgh Try.func99 rfl rfl rfl rfl rfl () trivial (Nat.le_refl _) rfl rfl rfl
    
    · have q1 : ¬ (mid : Int) < (e : Int) := of_decide_eq_false q1
      have q2 : ¬ (mid < e ∧ e < b) := by omega
      refine p_br (n := 60) C rfl (fun h => absurd h (by decide)) (fun _ => ?_)
      rw [L3x, if_neg q2] at htg
      subst htg
      refine p_at (n := 60) C rfl ?_
      refine p_weaken (st1 := ⟨[], sOb s (symM (ltF s) (f + 1) a m b L), 177, 3, [], [ghost ga 3]⟩) id ?_ (.inl rfl) rfl trivial ⟨⟨rfl, rfl, rfl⟩, Nat.le_of_ble_eq_true rfl, ⟨rfl, rfl, rfl⟩, Nat.le_of_ble_eq_true rfl, ⟨rfl, rfl, rfl, fun _ _ => rfl⟩, Nat.le_of_ble_eq_true rfl, trivial⟩ rfl rfl rfl (sus_ghost (fun _ _ => rfl) (Nat.le_refl _))
      exact p_retM (n := 60) C hgh Try.func99 rfl rfl rfl rfl rfl () trivial (Nat.le_refl _) rfl rfl rfl
  
  have KB : ∀ (sS e : Nat) (L2 : List FreeD), L2.length = L.length → m ≤ e ∨ mid ≤ e → e ≤ b → L3x (ltF s) f mid e b (L2x (ltF s) f a sS mid L2) = symM (ltF s) (f + 1) a m b L → QS Try.prog XC X0 w0 (frm 99) [] 99 (RM (fun _ : Unit => SV.t []) (fun _ => sOb s (symM (ltF s) (f + 1) a m b L)) (fun _ => 3) (fun _ => True) XC X0 w0 Ei 3) [.code tailB] [] ⟨[(1, i64 a), (3, i64 b), (4, .p 3 0), (16, i64 mid), (18, i64 sS), (22, i64 e)], dBox :: sOb s L2, 177, 4, [], [ghost ga 3]⟩ := fun sS e L2 hl he0 he htg => by
    refine p_br (n := 60) C rfl (fun q1 => ?_) (fun q1 => ?_)
    · have q1 : (a : Int) < (sS : Int) := of_decide_eq_true q1
      have q1 : a < sS := by omega
      refine p_br (n := 60) C rfl (fun q2 => ?_) (fun q2 => ?_)
      · have q2 : (sS : Int) < (mid : Int) := of_decide_eq_true q2
        have q2 : sS < mid := by omega
        refine p_at (n := 60) C rfl ?_
        refine p_callM C id (ih a sS mid L2 q1 q2 (by omega) (by omega) (by omega)) rfl rfl rfl rfl rfl rfl ⟨⟨rfl, rfl, rfl⟩, Nat.le_of_ble_eq_true rfl, ⟨rfl, rfl, rfl⟩, Nat.le_of_ble_eq_true rfl, ⟨rfl, rfl, rfl, fun _ _ => rfl⟩, Nat.le_of_ble_eq_true rfl, trivial⟩ rfl fun _ _ => ?_
        rw [L2x, if_pos ⟨q1, q2⟩] at htg
        refine p_at (n := 1) C rfl ?_
        refine p_weaken (st1 := ⟨[(1, i64 a), (3, i64 b), (4, .p 3 0), (16, i64 mid), (22, i64 e)], dBox :: sOb s (symM (ltF s) f a sS mid L2), 177, 4, [], [ghost ga 3]⟩) id (KC sS e (symM (ltF s) f a sS mid L2) (by rw [symM_len, hl]) he0 he htg) (.inl rfl) rfl ⟨rfl, rfl, rfl, rfl, rfl, rfl, rfl, rfl, rfl, rfl, trivial⟩
          ⟨⟨rfl, rfl, rfl⟩, Nat.le_of_ble_eq_true rfl, ⟨rfl, rfl, rfl⟩, Nat.le_of_ble_eq_true rfl, ⟨rfl, rfl, rfl⟩, Nat.le_of_ble_eq_true rfl, ⟨rfl, rfl, rfl, fun _ _ => rfl⟩, Nat.le_of_ble_eq_true rfl, trivial⟩ rfl rfl rfl (sus_ghost (fun _ _ => rfl) (Nat.le_of_ble_eq_true rfl))
    
      · have q2 : ¬ (sS : Int) < (mid : Int) := of_decide_eq_false q2
        have q2 : ¬ (a < sS ∧ sS < mid) := by omega
        rw [L2x, if_neg q2] at htg
        refine p_at (n := 1) C rfl ?_
        refine p_weaken (st1 := ⟨[(1, i64 a), (3, i64 b), (4, .p 3 0), (16, i64 mid), (22, i64 e)], dBox :: sOb s L2, 177, 4, [], [ghost ga 3]⟩) id (KC sS e L2 hl he0 he htg) (.inl rfl) rfl ⟨rfl, rfl, rfl, rfl, rfl, rfl, rfl, rfl, rfl, rfl, trivial⟩
          ⟨⟨rfl, rfl, rfl⟩, Nat.le_of_ble_eq_true rfl, ⟨rfl, rfl, rfl⟩, Nat.le_of_ble_eq_true rfl, ⟨rfl, rfl, rfl⟩, Nat.le_of_ble_eq_true rfl, ⟨rfl, rfl, rfl, fun _ _ => rfl⟩, Nat.le_of_ble_eq_true rfl, trivial⟩ rfl rfl rfl (sus_ghost (fun _ _ => rfl) (Nat.le_of_ble_eq_true rfl))
    
    · have q1 : ¬ (a : Int) < (sS : Int) := of_decide_eq_false q1
      have q2 : ¬ (a < sS ∧ sS < mid) := by omega
      refine p_br (n := 60) C rfl (fun h => absurd h (by decide)) (fun _ => ?_)
      rw [L2x, if_neg q2] at htg
      refine p_at (n := 1) C rfl ?_
      refine p_weaken (st1 := ⟨[(1, i64 a), (3, i64 b), (4, .p 3 0), (16, i64 mid), (22, i64 e)], dBox :: sOb s L2, 177, 4, [], [ghost ga 3]⟩) id (KC sS e L2 hl he0 he htg) (.inl rfl) rfl ⟨rfl, rfl, rfl, rfl, rfl, rfl, rfl, rfl, rfl, rfl, trivial⟩
        ⟨⟨rfl, rfl, rfl⟩, Nat.le_of_ble_eq_true rfl, ⟨rfl, rfl, rfl⟩, Nat.le_of_ble_eq_true rfl, ⟨rfl, rfl, rfl⟩, Nat.le_of_ble_eq_true rfl, ⟨rfl, rfl, rfl, fun _ _ => rfl⟩, Nat.le_of_ble_eq_true rfl, trivial⟩ rfl rfl rfl (sus_ghost (fun _ _ => rfl) (Nat.le_of_ble_eq_true rfl))
  
  have KA : ∀ s0 r0 : Nat, s0 = (if m > mid then mid + m - b else a) → r0 = (if m > mid then mid else m) → QS Try.prog XC X0 w0 (frm 99) [] 99 (RM (fun _ : Unit => SV.t []) (fun _ => sOb s (symM (ltF s) (f + 1) a m b L)) (fun _ => 3) (fun _ => True) XC X0 w0 Ei 3) [.code tailA] [] ⟨[(1, i64 a), (2, i64 m), (3, i64 b), (4, .p 3 0), (16, i64 mid), (17, i64 (mid + m : Nat)), (18, i64 s0), (19, i64 r0)], dBox :: sOb s L, 177, 4, [], [ghost ga 3]⟩ := fun s0 r0 hs0 hr0 => by
    have hrange : a ≤ s0 ∧ s0 ≤ r0 ∧ r0 ≤ m ∧ r0 ≤ mid ∨ a ≤ s0 ∧ s0 ≤ r0 ∧ r0 ≤ m ∧ m ≤ mid := by
      by_cases hc : m > mid
      · rw [if_pos hc] at hs0 hr0; omega
      · rw [if_neg hc] at hs0 hr0; omega
    have heb : mid + m - s0 ≤ b := by
      by_cases hc : m > mid
      · rw [if_pos hc] at hs0; omega
      · rw [if_neg hc] at hs0; omega
    refine p_loop (n := 60) C rfl ?_
    let I : Nat × Nat × Nat → St := fun x => ⟨[(18, i64 x.2.1), (19, i64 x.2.2), (1, i64 a), (2, i64 m), (3, i64 b), (4, .p 3 0), (16, i64 mid), (17, i64 (mid + m : Nat)), (20, i64 (mid + m - 1 : Nat))], dBox :: sOb s L, 177, 4, [], [ghost ga 3]⟩
    refine p_weaken (st1 := I (b - a, s0, r0)) id (p_inv I (fun x => bs (fun c => !ltF s (L.getD (mid + m - 1 - c) default) (L.getD c default)) x.1 x.2.1 x.2.2 = bs (fun c => !ltF s (L.getD (mid + m - 1 - c) default) (L.getD c default)) (b - a) s0 r0 ∧ s0 ≤ x.2.1 ∧ x.2.1 ≤ x.2.2 ∧ x.2.2 ≤ r0 ∧ x.2.2 - x.2.1 ≤ x.1) (fun x => x.2.2 - x.2.1) (fun x hx ih2 => ?_) (b - a, s0, r0) ⟨rfl, Nat.le_refl _, by show s0 ≤ r0; omega, Nat.le_refl _, by show r0 - s0 ≤ b - a; omega⟩) (.inl rfl) rfl ⟨rfl, rfl, rfl, rfl, rfl, rfl, rfl, rfl, rfl, rfl, rfl, rfl, rfl, rfl, rfl, rfl, ?_, rfl, trivial⟩
      ⟨⟨rfl, rfl, rfl⟩, Nat.le_of_ble_eq_true rfl, ⟨rfl, rfl, rfl⟩, Nat.le_of_ble_eq_true rfl, ⟨rfl, rfl, rfl⟩, Nat.le_of_ble_eq_true rfl, ⟨rfl, rfl, rfl, fun _ _ => rfl⟩, Nat.le_of_ble_eq_true rfl, trivial⟩ rfl rfl rfl (sus_ghost (fun _ _ => rfl) (Nat.le_of_ble_eq_true rfl))
    rotate_left
    · show some (i64 _) = some (i64 _)
      rw [wrapD (by omega) (by omega)]
    obtain ⟨f1, i, j⟩ := x
    obtain ⟨x1, x2, x3, x4, x5⟩ := hx
    dsimp only at x1 x2 x3 x4 x5
    refine p_br (n := 60) C rfl (fun hq3 => ?_) (fun hq3 => ?_)
    · have h3 : (i : Int) < (j : Int) := of_decide_eq_true hq3
      have h3 : i < j := by omega
      obtain ⟨f1, rfl⟩ : ∃ f', f1 = f' + 1 := ⟨f1 - 1, by omega⟩
      rw [bs, if_pos h3] at x1
      obtain ⟨hh1, hh2⟩ : i ≤ (i + j) / 2 ∧ (i + j) / 2 < j := by omega
      refine p_need (n := 60) C rfl (by decide) ?_
      refine p_at (n := 60) C rfl ?_
      refine p_callM C id (less_ok s L (mid + m - 1 - (i + j) / 2) ((i + j) / 2) (by omega) (by omega)) rfl rfl ?_ rfl rfl rfl ⟨⟨rfl, rfl, rfl⟩, Nat.le_of_ble_eq_true rfl, ⟨rfl, rfl, rfl⟩, Nat.le_of_ble_eq_true rfl, ⟨rfl, rfl, rfl, fun _ _ => rfl⟩, Nat.le_of_ble_eq_true rfl, trivial⟩ rfl fun _ _ => ?_
      · show [i64 _, i64 _, _, _] = [i64 _, i64 _, _, _]
        dsimp only
        rw [wrapH (by omega), wrapS (by omega) (by omega)]; rfl
      have hx1 := x1
      refine p_br (n := 60) C rfl (fun h4 => ?_) (fun h4 => ?_)
      · have h4 : ltF s (L.getD (mid + m - 1 - (i + j) / 2) default) (L.getD ((i + j) / 2) default) = false := by simpa using h4
        rw [if_pos (by rw [h4]; rfl)] at hx1
        refine p_loop (n := 60) C rfl ?_
        refine p_weaken (st1 := I (f1, (i + j) / 2 + 1, j)) id (ih2 (f1, (i + j) / 2 + 1, j) ⟨hx1, by show s0 ≤ (i + j) / 2 + 1; omega, by show (i + j) / 2 + 1 ≤ j; omega, x4, by show j - ((i + j) / 2 + 1) ≤ f1; omega⟩ (by show j - ((i + j) / 2 + 1) < j - i; omega)) (.inl rfl) rfl ⟨?_, rfl, rfl, rfl, rfl, rfl, rfl, rfl, rfl, rfl, rfl, rfl, rfl, rfl, rfl, rfl, rfl, rfl, trivial⟩
          ⟨⟨rfl, rfl, rfl⟩, Nat.le_of_ble_eq_true rfl, ⟨rfl, rfl, rfl⟩, Nat.le_of_ble_eq_true rfl, ⟨rfl, rfl, rfl⟩, Nat.le_of_ble_eq_true rfl, ⟨rfl, rfl, rfl, fun _ _ => rfl⟩, Nat.le_of_ble_eq_true rfl, trivial⟩ rfl rfl rfl (sus_ghost (fun _ _ => rfl) (Nat.le_of_ble_eq_true rfl))
        show some (i64 _) = some (i64 _)
        dsimp only
        rw [wrapH (by omega), wrapN (by omega)]
      · have h4 : ltF s (L.getD (mid + m - 1 - (i + j) / 2) default) (L.getD ((i + j) / 2) default) = true := by simpa using h4
        rw [if_neg (by rw [h4]; simp)] at hx1
        refine p_loop (n := 60) C rfl ?_
        refine p_weaken (st1 := I (f1, i, (i + j) / 2)) id (ih2 (f1, i, (i + j) / 2) ⟨hx1, x2, by show i ≤ (i + j) / 2; omega, by show (i + j) / 2 ≤ r0; omega, by show (i + j) / 2 - i ≤ f1; omega⟩ (by show (i + j) / 2 - i < j - i; omega)) (.inl rfl) rfl ⟨rfl, rfl, ?_, rfl, rfl, rfl, rfl, rfl, rfl, rfl, rfl, rfl, rfl, rfl, rfl, rfl, rfl, rfl, trivial⟩
          ⟨⟨rfl, rfl, rfl⟩, Nat.le_of_ble_eq_true rfl, ⟨rfl, rfl, rfl⟩, Nat.le_of_ble_eq_true rfl, ⟨rfl, rfl, rfl⟩, Nat.le_of_ble_eq_true rfl, ⟨rfl, rfl, rfl, fun _ _ => rfl⟩, Nat.le_of_ble_eq_true rfl, trivial⟩ rfl rfl rfl (sus_ghost (fun _ _ => rfl) (Nat.le_of_ble_eq_true rfl))
        show some (i64 _) = some (i64 _)
        dsimp only
        rw [wrapH (by omega)]
    · have h3 : ¬ (i : Int) < (j : Int) := of_decide_eq_false hq3
      have hij : i = j := by omega
      subst hij
      rw [bs_stop] at x1
      have hsS : symS (ltF s) a m b L = i := by rw [x1, hs0, hr0, hmid]; rfl
      have hB := fun hl => KB i (mid + m - i) (L1x m i (mid + m - i) L) hl (by omega) (by omega) (by rw [symM_big (ltF s) f a m b L h1 h2, hsS, ← hmid])
      refine p_br (n := 60) C rfl (fun q1 => ?_) (fun q1 => ?_)
      · have q1 : (i : Int) < (m : Int) := of_decide_eq_true q1
        have q1 : i < m := by omega
        refine p_br (n := 60) C rfl (fun q2 => ?_) (fun q2 => ?_)
        · have q2 : (m : Int) < IntKind.i64.wrap (((mid + m : Nat) : Int) - (i : Int)) := of_decide_eq_true q2
          rw [wrapS (by omega) (by omega)] at q2
          have q2 : m < mid + m - i := by omega
          refine p_at (n := 60) C rfl ?_
          refine p_callM C id (rotate_ok s L i m (mid + m - i) q1 q2 (by omega) (by omega)) rfl rfl ?_ rfl rfl rfl ⟨⟨rfl, rfl, rfl⟩, Nat.le_of_ble_eq_true rfl, ⟨rfl, rfl, rfl⟩, Nat.le_of_ble_eq_true rfl, ⟨rfl, rfl, rfl, fun _ _ => rfl⟩, Nat.le_of_ble_eq_true rfl, trivial⟩ rfl fun _ _ => ?_
          · show [_, _, _, i64 _] = [_, _, _, i64 _]
            dsimp only
            rw [wrapS (by omega) (by omega)]; rfl
          rw [L1x, if_pos ⟨q1, q2⟩] at hB
          refine p_at (n := 1) C rfl ?_
          refine p_weaken (st1 := ⟨[(1, i64 a), (3, i64 b), (4, .p 3 0), (16, i64 mid), (18, i64 i), (22, i64 (mid + m - i : Nat))], dBox :: sOb s (rot m (mid + m - i - i) (m - i) (mid + m - i - m) L), 177, 4, [], [ghost ga 3]⟩) id (hB (rot_len _ _ _ _ _)) (.inl rfl) rfl ⟨rfl, rfl, rfl, rfl, rfl, rfl, rfl, rfl, rfl, rfl, ?_, rfl, trivial⟩
            ⟨⟨rfl, rfl, rfl⟩, Nat.le_of_ble_eq_true rfl, ⟨rfl, rfl, rfl⟩, Nat.le_of_ble_eq_true rfl, ⟨rfl, rfl, rfl⟩, Nat.le_of_ble_eq_true rfl, ⟨rfl, rfl, rfl, fun _ _ => rfl⟩, Nat.le_of_ble_eq_true rfl, trivial⟩ rfl rfl rfl (sus_ghost (fun _ _ => rfl) (Nat.le_of_ble_eq_true rfl))
          show some (i64 _) = some (i64 _)
          dsimp only
          rw [wrapS (by omega) (by omega)]
        · have q2 : ¬ (m : Int) < IntKind.i64.wrap (((mid + m : Nat) : Int) - (i : Int)) := of_decide_eq_false q2
          rw [wrapS (by omega) (by omega)] at q2
          have q2 : ¬ (i < m ∧ m < mid + m - i) := by omega
          rw [L1x, if_neg q2] at hB
          refine p_at (n := 1) C rfl ?_
          refine p_weaken (st1 := ⟨[(1, i64 a), (3, i64 b), (4, .p 3 0), (16, i64 mid), (18, i64 i), (22, i64 (mid + m - i : Nat))], dBox :: sOb s L, 177, 4, [], [ghost ga 3]⟩) id (hB rfl) (.inl rfl) rfl ⟨rfl, rfl, rfl, rfl, rfl, rfl, rfl, rfl, rfl, rfl, ?_, rfl, trivial⟩
            ⟨⟨rfl, rfl, rfl⟩, Nat.le_of_ble_eq_true rfl, ⟨rfl, rfl, rfl⟩, Nat.le_of_ble_eq_true rfl, ⟨rfl, rfl, rfl⟩, Nat.le_of_ble_eq_true rfl, ⟨rfl, rfl, rfl, fun _ _ => rfl⟩, Nat.le_of_ble_eq_true rfl, trivial⟩ rfl rfl rfl (sus_ghost (fun _ _ => rfl) (Nat.le_of_ble_eq_true rfl))
          show some (i64 _) = some (i64 _)
          dsimp only
          rw [wrapS (by omega) (by omega)]
      · have q1 : ¬ (i : Int) < (m : Int) := of_decide_eq_false q1
        have q2 : ¬ (i < m ∧ m < mid + m - i) := by omega
        rw [L1x, if_neg q2] at hB
        refine p_br (n := 60) C rfl (fun h => absurd h (by decide)) (fun _ => ?_)
        refine p_at (n := 1) C rfl ?_
        refine p_weaken (st1 := ⟨[(1, i64 a), (3, i64 b), (4, .p 3 0), (16, i64 mid), (18, i64 i), (22, i64 (mid + m - i : Nat))], dBox :: sOb s L, 177, 4, [], [ghost ga 3]⟩) id (hB rfl) (.inl rfl) rfl ⟨rfl, rfl, rfl, rfl, rfl, rfl, rfl, rfl, rfl, rfl, ?_, rfl, trivial⟩
          ⟨⟨rfl, rfl, rfl⟩, Nat.le_of_ble_eq_true rfl, ⟨rfl, rfl, rfl⟩, Nat.le_of_ble_eq_true rfl, ⟨rfl, rfl, rfl⟩, Nat.le_of_ble_eq_true rfl, ⟨rfl, rfl, rfl, fun _ _ => rfl⟩, Nat.le_of_ble_eq_true rfl, trivial⟩ rfl rfl rfl (sus_ghost (fun _ _ => rfl) (Nat.le_of_ble_eq_true rfl))
        show some (i64 _) = some (i64 _)
        dsimp only
        rw [wrapS (by omega) (by omega)]
  
  refine p_need (n := 60) C rfl (by decide) ?_
  refine p_br (n := 60) C rfl (fun q => ?_) (fun q => ?_)
  · have q : (m : Int) > _ := of_decide_eq_true q
    rw [wrapH (by omega), ← hmid] at q
    have q : m > mid := by omega
    refine p_at (n := 11) C rfl ?_
    refine p_weaken (st1 := ⟨[(1, i64 a), (2, i64 m), (3, i64 b), (4, .p 3 0), (16, i64 mid), (17, i64 (mid + m : Nat)), (18, i64 (mid + m - b : Nat)), (19, i64 mid)], dBox :: sOb s L, 177, 4, [], [ghost ga 3]⟩) id (KA (mid + m - b) mid (by rw [if_pos q]) (by rw [if_pos q])) (.inl rfl) rfl ⟨rfl, rfl, rfl, rfl, rfl, rfl, rfl, rfl, ?_, rfl, ?_, rfl, ?_, rfl, ?_, rfl, trivial⟩
      ⟨⟨rfl, rfl, rfl⟩, Nat.le_of_ble_eq_true rfl, ⟨rfl, rfl, rfl⟩, Nat.le_of_ble_eq_true rfl, ⟨rfl, rfl, rfl⟩, Nat.le_of_ble_eq_true rfl, ⟨rfl, rfl, rfl, fun _ _ => rfl⟩, Nat.le_of_ble_eq_true rfl, trivial⟩ rfl rfl rfl (sus_ghost (fun _ _ => rfl) (Nat.le_of_ble_eq_true rfl))
    · show some (i64 _) = some (i64 _)
      rw [wrapH (by omega), ← hmid]
    · show some (i64 _) = some (i64 _)
      rw [wrapH (by omega), ← hmid, wrapA (by omega)]
    · show some (i64 _) = some (i64 _)
      rw [wrapH (by omega), ← hmid, wrapA (by omega), wrapS (by omega) (by omega)]
    · show some (i64 _) = some (i64 _)
      rw [wrapH (by omega), ← hmid]
  · have q : ¬ (m : Int) > _ := of_decide_eq_false q
    rw [wrapH (by omega), ← hmid] at q
    have q : ¬ m > mid := by omega
    refine p_at (n := 9) C rfl ?_
    refine p_weaken (st1 := ⟨[(1, i64 a), (2, i64 m), (3, i64 b), (4, .p 3 0), (16, i64 mid), (17, i64 (mid + m : Nat)), (18, i64 a), (19, i64 m)], dBox :: sOb s L, 177, 4, [], [ghost ga 3]⟩) id (KA a m (by rw [if_neg q]) (by rw [if_neg q])) (.inl rfl) rfl ⟨rfl, rfl, rfl, rfl, rfl, rfl, rfl, rfl, ?_, rfl, ?_, rfl, rfl, rfl, rfl, rfl, trivial⟩
      ⟨⟨rfl, rfl, rfl⟩, Nat.le_of_ble_eq_true rfl, ⟨rfl, rfl, rfl⟩, Nat.le_of_ble_eq_true rfl, ⟨rfl, rfl, rfl⟩, Nat.le_of_ble_eq_true rfl, ⟨rfl, rfl, rfl, fun _ _ => rfl⟩, Nat.le_of_ble_eq_true rfl, trivial⟩ rfl rfl rfl (sus_ghost (fun _ _ => rfl) (Nat.le_of_ble_eq_true rfl))
    · show some (i64 _) = some (i64 _)
      rw [wrapH (by omega), ← hmid]
    · show some (i64 _) = some (i64 _)
      rw [wrapH (by omega), ← hmid, wrapA (by omega)]
end Go.Proofs.Ytneddobmlcbabaa
