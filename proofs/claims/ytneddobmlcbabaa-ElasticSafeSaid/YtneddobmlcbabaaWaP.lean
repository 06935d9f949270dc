/- A walk by symbols over the given program, a part of it: lemmas alone; what is claimed stands in the last text. No conditions of its own. -/
import Derived.Test.YtneddobmlcbabaaWaI
import Derived.Test.YtneddobmlcbabaaWaM
import Derived.Test.YtneddobmlcbabaaWaN
set_option linter.unusedVariables false
set_option linter.unusedSimpArgs false
namespace Go.Proofs.Ytneddobmlcbabaa
open Go.SE
open Go.RowKit
set_option maxRecDepth 100000
set_option maxHeartbeats 4000000

def bitV : Nat → Int
  | 0 => 1
  | j + 1 => IntKind.u64.wrap (bitV j * 2)
theorem bit_ok (n : Nat) (hn : n < 64) : PureC Try.prog 109 [i64 (n : Int)] Unit (fun _ => u64 (bitV n)) (fun _ => True) := by
  refine pureC_intro Try.func109 rfl rfl rfl (fun _ => rfl) (Nat.le_of_ble_eq_true rfl) fun XC w0 => ?_
  refine p_loop (n := 60) C rfl ?_
  let I : Nat → St := fun j => ⟨[(4, i64 (j : Int)), (3, u64 (bitV j)), (0, i64 (n : Int))], [], 13, 0, [], []⟩
  refine p_weaken (st1 := I 0) id (p_inv I (fun j => j ≤ n) (fun j => n - j) (fun j hj ih => ?_) 0 (Nat.zero_le _)) (.inl rfl) rfl ⟨rfl, rfl, rfl, rfl, rfl, rfl, trivial⟩ trivial rfl rfl rfl trivial
  refine p_br (n := 60) C rfl (fun hr => ?_) (fun hr => ?_)
  · have h : (j : Int) < (n : Int) := of_decide_eq_true hr
    refine p_loop (n := 60) C rfl ?_
    refine p_weaken (st1 := I (j + 1)) id (ih (j + 1) (by omega) (by omega)) (.inl rfl) rfl ⟨?_, rfl, rfl, rfl, rfl, rfl, trivial⟩ trivial rfl rfl rfl trivial
    show some (i64 _) = some (i64 _)
    rw [wrapN (by omega)]
  · have h : ¬ (j : Int) < (n : Int) := of_decide_eq_false hr
    have hj' : j = n := by omega
    subst hj'
    exact p_ret (n := 60) C Try.func109 rfl rfl rfl rfl () trivial rfl rfl
theorem bit_ok' (x : Int) (h0 : 0 ≤ x) (h1 : x < 64) : PureC Try.prog 109 [i64 x] Unit (fun _ => u64 (bitV x.toNat)) (fun _ => True) := by
  obtain ⟨k, rfl⟩ : ∃ k : Nat, x = (k : Int) := ⟨x.toNat, by omega⟩
  exact bit_ok k (by omega)
def sumB (l : List Int) : Nat → Int
  | 0 => 0
  | j + 1 => IntKind.u64.wrap (sumB l j + bitV (l.getD j default).toNat)
def lowRE (m n : Int) : Int := if n < 0 then 1 else if n > ((unitsTo m 64).length : Int) then 2 else 0
def lowRV (m n : Int) : Int := if lowRE m n = 0 then sumB (unitsTo m 64) n.toNat else 0
theorem lowR_ok (m n : Int) : PureC Try.prog 104 [u64 m, i64 n] Unit (fun _ => .t [u64 (lowRV m n), i64 (lowRE m n)]) (fun _ => True) := by
  refine pureC_intro Try.func104 rfl rfl rfl (fun _ => rfl) (Nat.le_of_ble_eq_true rfl) fun XC w0 => ?_
  have no : ∀ e, lowRE m n = e → e ≠ 0 → retV [u64 0, i64 e] = .t [u64 (lowRV m n), i64 (lowRE m n)] := fun e h h0 => by rw [lowRV, h, if_neg h0]; rfl
  refine p_br (n := 60) C rfl (fun hr => ?_) (fun hr => ?_)
  · have h1 : n < 0 := of_decide_eq_true hr
    exact p_ret (n := 60) C Try.func104 rfl rfl rfl rfl () trivial (no 1 (by rw [lowRE, if_pos h1]) (by decide)) rfl
  have h1 : ¬ n < 0 := of_decide_eq_false hr
  refine p_call (n := 60) C (unitsR_ok m) rfl rfl fun y _ => ?_
  refine p_br (n := 60) C rfl (fun hr => ?_) (fun hr => ?_)
  · have h2 : n > ((unitsTo m 64).length : Int) := of_decide_eq_true hr
    exact p_ret (n := 60) C Try.func104 rfl rfl rfl rfl () trivial (no 2 (by rw [lowRE, if_neg h1, if_pos h2]) (by decide)) rfl
  have h2 : ¬ n > ((unitsTo m 64).length : Int) := of_decide_eq_false hr
  have hE : lowRE m n = 0 := by rw [lowRE, if_neg h1, if_neg h2]
  have hV : lowRV m n = sumB (unitsTo m 64) n.toNat := by rw [lowRV, if_pos hE]
  rw [hE, hV]
  obtain ⟨N, rfl⟩ : ∃ N : Nat, n = (N : Int) := ⟨n.toNat, by omega⟩
  have hN : N ≤ (unitsTo m 64).length := by omega
  rw [Int.toNat_natCast]
  refine p_loop (n := 60) C rfl ?_
  have hlen := unitsTo_len m 64
  let I : Nat → St := fun j => ⟨[(8, i64 (j : Int)), (6, Sl.sv 1 intC ⟨y.1, y.2, unitsTo m 64⟩), (7, u64 (sumB (unitsTo m 64) j)), (1, i64 (N : Int))], [], 30, 0, [], []⟩
  refine p_weaken (st1 := I 0) id (p_inv I (fun j => j ≤ N) (fun j => N - j) (fun j hj ih => ?_) 0 (Nat.zero_le _)) (.inl rfl) rfl ⟨rfl, rfl, rfl, rfl, rfl, rfl, rfl, rfl, trivial⟩ trivial rfl rfl rfl trivial
  refine p_br (n := 60) C rfl (fun hr => ?_) (fun hr => ?_)
  · have h : (j : Int) < (N : Int) := of_decide_eq_true hr
    have h' : j < (unitsTo m 64).length := by omega
    have hmem : (unitsTo m 64).getD j default ∈ unitsTo m 64 := by simp [List.getD_eq_getElem?_getD, h']
    have hm := unitsTo_mem m 64 _ hmem
    refine p_need (n := 60) C rfl (show (0 : Int) ≤ (j : Int) ∧ (j : Int) < ((unitsTo m 64).length : Int) by omega) ?_
    refine p_call (n := 60) C (bit_ok' ((unitsTo m 64).getD j default) hm.1 hm.2) rfl rfl fun _ _ => ?_
    refine p_loop (n := 60) C rfl ?_
    refine p_weaken (st1 := I (j + 1)) id (ih (j + 1) (by omega) (by omega)) (.inl rfl) rfl ⟨?_, rfl, rfl, rfl, rfl, rfl, rfl, rfl, trivial⟩ trivial rfl rfl rfl trivial
    show some (i64 _) = some (i64 _)
    rw [wrapN (by omega)]
  · have h : ¬ (j : Int) < (N : Int) := of_decide_eq_false hr
    have hj' : j = N := by omega
    subst hj'
    exact p_ret (n := 60) C Try.func104 rfl rfl rfl rfl () trivial rfl rfl
def pieceRE (s : ShapeD) (f : FreeD) : Int := if lowRE f.m s.g ≠ 0 ∨ f.c < 0 ∨ f.c < s.c then 7 else 0
def pieceRS (s : ShapeD) (f : FreeD) : FreeD := if pieceRE s f = 0 then ⟨f.nd, f.dm, lowRV f.m s.g, s.c⟩ else ⟨0, 0, 0, 0⟩
def pieceRL (s : ShapeD) (f : FreeD) : FreeD := if pieceRE s f = 0 then ⟨f.nd, f.dm, IntKind.u64.wrap (f.m - lowRV f.m s.g), IntKind.i64.wrap (f.c - s.c)⟩ else ⟨0, 0, 0, 0⟩
theorem pieceR_ok (s : ShapeD) (f : FreeD) : PureC Try.prog 88 [.a s.cs, .a f.cs] Unit (fun _ => .t [.a (pieceRS s f).cs, .a (pieceRL s f).cs, i64 (pieceRE s f)]) (fun _ => True) := by
  refine pureC_intro Try.func88 rfl rfl rfl (fun _ => rfl) (Nat.le_of_ble_eq_true rfl) fun XC w0 => ?_
  have no : pieceRE s f = 7 → retV [.a [i64 0, i64 0, u64 0, i64 0], .a [i64 0, i64 0, u64 0, i64 0], i64 7] = .t [.a (pieceRS s f).cs, .a (pieceRL s f).cs, i64 (pieceRE s f)] := fun h => by rw [pieceRS, pieceRL, h, if_neg (by decide), if_neg (by decide)]; rfl
  refine p_call (n := 60) C (lowR_ok f.m s.g) rfl rfl fun _ _ => ?_
  refine p_br (n := 60) C rfl (fun hr => ?_) (fun hr => ?_)
  · have h1 : lowRE f.m s.g ≠ 0 := by simpa using hr
    refine p_br (n := 60) C rfl (fun _ => ?_) (fun h => absurd h (by decide))
    refine p_br (n := 60) C rfl (fun _ => ?_) (fun h => absurd h (by decide))
    exact p_ret (n := 60) C Try.func88 rfl rfl rfl rfl () trivial (no (by rw [pieceRE, if_pos (.inl h1)])) rfl
  have h1 : ¬ lowRE f.m s.g ≠ 0 := by simpa using hr
  refine p_br (n := 60) C rfl (fun hr2 => ?_) (fun hr2 => ?_)
  · have h2 : f.c < 0 := of_decide_eq_true hr2
    refine p_br (n := 60) C rfl (fun _ => ?_) (fun h => absurd h (by decide))
    exact p_ret (n := 60) C Try.func88 rfl rfl rfl rfl () trivial (no (by rw [pieceRE, if_pos (.inr (.inl h2))])) rfl
  have h2 : ¬ f.c < 0 := of_decide_eq_false hr2
  refine p_br (n := 60) C rfl (fun hr3 => ?_) (fun hr3 => ?_)
  · have h3 : f.c < s.c := of_decide_eq_true hr3
    exact p_ret (n := 60) C Try.func88 rfl rfl rfl rfl () trivial (no (by rw [pieceRE, if_pos (.inr (.inr h3))])) rfl
  have h3 : ¬ f.c < s.c := of_decide_eq_false hr3
  have hE : pieceRE s f = 0 := by rw [pieceRE, if_neg]; rintro (h | h | h); exact h1 h; exact h2 h; exact h3 h
  refine p_at (n := 60) C rfl ?_
  refine p_draw C [2, 3] (.t 0 <| .t 1 <| .t 2 <| .t 3 <| .t 4 <| .t 5 <| .t 6 <| .t 7 <| .t 8 <| .t 9 <| .t 10 <| .t 11 <| .t 12 <| .t 13 <| .t 14 <| .t 15 <| .t 16 <| .t 17 <| .o 18 <| .o 19 <| .t 20 .d) (by kernel_rfl) (by kernel_rfl) ?_
  refine d_fin C rfl ?_
  refine p_ret (n := 60) C Try.func88 rfl rfl rfl rfl () trivial ?_ rfl
  rw [pieceRS, pieceRL, hE]
  rfl
theorem rightR_ok (s : ShapeD) : PureC Try.prog 61 [.a s.cs] Unit (fun _ => bo (decide (s.chk = 0))) (fun _ => True) := by
  refine pureC_intro Try.func61 rfl rfl rfl (fun _ => rfl) (Nat.le_of_ble_eq_true rfl) fun XC w0 => ?_
  have e : s.chk = 0 ↔ (0 ≤ s.g ∧ s.g ≤ 16 ∧ 0 ≤ s.c ∧ s.c ≤ 1024 ∧ 1 ≤ s.mn ∧ s.mn ≤ s.mx ∧ 1 ≤ s.mx ∧ s.mx ≤ 16 ∧ ¬ (s.g = 0 ∧ s.c = 0)) := ⟨chk0, fun h => by unfold ShapeD.chk checkV; rw [if_pos h]⟩
  have no : ¬ s.chk = 0 → retV [.v (.bool false)] = bo (decide (s.chk = 0)) := fun h => by rw [decide_eq_false h]; rfl
  have stop : ∀ {P : Prop}, (true = false → P) := fun h => by cases h
  refine p_br (n := 60) C rfl (fun r1 => ?_) (fun r1 => ?_)
  rotate_left
  · have q : ¬ s.g ≥ 0 := of_decide_eq_false r1
    repeat (refine p_br (n := 60) C rfl (fun h => absurd h (by decide)) (fun _ => ?_))
    exact p_ret (n := 60) C Try.func61 rfl rfl rfl rfl () trivial (no (by omega)) rfl
  have r1 : s.g ≥ 0 := of_decide_eq_true r1
  refine p_br (n := 60) C rfl (fun r2 => ?_) (fun r2 => ?_)
  rotate_left
  · have q : ¬ s.g ≤ 16 := of_decide_eq_false r2
    repeat (refine p_br (n := 60) C rfl (fun h => absurd h (by decide)) (fun _ => ?_))
    exact p_ret (n := 60) C Try.func61 rfl rfl rfl rfl () trivial (no (by omega)) rfl
  have r2 : s.g ≤ 16 := of_decide_eq_true r2
  refine p_br (n := 60) C rfl (fun r3 => ?_) (fun r3 => ?_)
  rotate_left
  · have q : ¬ s.c ≥ 0 := of_decide_eq_false r3
    repeat (refine p_br (n := 60) C rfl (fun h => absurd h (by decide)) (fun _ => ?_))
    exact p_ret (n := 60) C Try.func61 rfl rfl rfl rfl () trivial (no (by omega)) rfl
  have r3 : s.c ≥ 0 := of_decide_eq_true r3
  refine p_br (n := 60) C rfl (fun r4 => ?_) (fun r4 => ?_)
  rotate_left
  · have q : ¬ s.c ≤ 1024 := of_decide_eq_false r4
    repeat (refine p_br (n := 60) C rfl (fun h => absurd h (by decide)) (fun _ => ?_))
    exact p_ret (n := 60) C Try.func61 rfl rfl rfl rfl () trivial (no (by omega)) rfl
  have r4 : s.c ≤ 1024 := of_decide_eq_true r4
  have hw : IntKind.i64.wrap (s.g + s.c) = s.g + s.c := wrap64 (by omega) (by omega)
  refine p_br (n := 60) C rfl (fun r5 => ?_) (fun r5 => ?_)
  rotate_left
  · have q : ¬ IntKind.i64.wrap (s.g + s.c) > 0 := of_decide_eq_false r5
    rw [hw] at q
    repeat (refine p_br (n := 60) C rfl (fun h => absurd h (by decide)) (fun _ => ?_))
    exact p_ret (n := 60) C Try.func61 rfl rfl rfl rfl () trivial (no (by omega)) rfl
  have r5 : IntKind.i64.wrap (s.g + s.c) > 0 := of_decide_eq_true r5
  rw [hw] at r5
  refine p_br (n := 60) C rfl (fun r6 => ?_) (fun r6 => ?_)
  rotate_left
  · have q : ¬ s.mn ≥ 1 := of_decide_eq_false r6
    repeat (refine p_br (n := 60) C rfl (fun h => absurd h (by decide)) (fun _ => ?_))
    exact p_ret (n := 60) C Try.func61 rfl rfl rfl rfl () trivial (no (by omega)) rfl
  have r6 : s.mn ≥ 1 := of_decide_eq_true r6
  refine p_br (n := 60) C rfl (fun r7 => ?_) (fun r7 => ?_)
  rotate_left
  · have q : ¬ s.mn ≤ s.mx := of_decide_eq_false r7
    exact p_ret (n := 60) C Try.func61 rfl rfl rfl rfl () trivial (no (by omega)) rfl
  have r7 : s.mn ≤ s.mx := of_decide_eq_true r7
  refine p_ret (n := 60) C Try.func61 rfl rfl rfl rfl () trivial ?_ rfl
  show bo (decide (s.mx ≤ 16)) = _
  congr 1
  rw [decide_eq_decide, e]
  omega
end Go.Proofs.Ytneddobmlcbabaa
namespace Go.Proofs.Ytneddobmlcbabaa
open Go.SE
open Go.RowKit
set_option maxRecDepth 100000
set_option maxHeartbeats 4000000

def fitsRk (s : ShapeD) : Nat → FreeD → Nat
  | 0, _ => 0
  | k + 1, f => if pieceRE s f ≠ 0 then 0 else 1 + fitsRk s k (pieceRL s f)
def fitsR (s : ShapeD) (f : FreeD) : Nat := if s.chk = 0 then fitsRk s 16 f else 0
theorem fitsR_ok (s : ShapeD) (f0 : FreeD) : PureC Try.prog 66 [.a s.cs, .a f0.cs] Unit (fun _ => i64 (fitsR s f0 : Int)) (fun _ => True) := by
  refine pureC_intro Try.func66 rfl rfl rfl (fun _ => rfl) (Nat.le_of_ble_eq_true rfl) fun XC w0 => ?_
  refine p_call (n := 60) C (rightR_ok s) rfl rfl fun _ _ => ?_
  refine p_br (n := 60) C rfl (fun hr => ?_) (fun hr => ?_)
  · have h1 : ¬ s.chk = 0 := by simpa using hr
    exact p_ret (n := 60) C Try.func66 rfl rfl rfl rfl () trivial (by rw [fitsR, if_neg h1]; rfl) rfl
  have h1 : s.chk = 0 := by simpa using hr
  rw [fitsR, if_pos h1]
  refine p_loop (n := 60) C rfl ?_
  let I : Nat × FreeD → St := fun x => ⟨[(5, i64 (x.1 : Int)), (2, .p 0 0), (3, .p 1 0)], [(1, .cells x.2.cs 73), (0, .cells s.cs 30)], 28, 2, [], []⟩
  refine p_weaken (st1 := I (0, f0)) id (p_inv I (fun x => x.1 ≤ 16 ∧ x.1 + fitsRk s (16 - x.1) x.2 = fitsRk s 16 f0) (fun x => 16 - x.1) (fun x hx ih => ?_) (0, f0) ⟨Nat.zero_le _, by simp⟩) (.inl rfl) rfl ⟨rfl, rfl, rfl, rfl, rfl, rfl, trivial⟩ ⟨⟨rfl, rfl, rfl⟩, Nat.le_of_ble_eq_true rfl, ⟨rfl, rfl, rfl⟩, Nat.le_of_ble_eq_true rfl, trivial⟩ rfl rfl rfl trivial
  obtain ⟨n, f⟩ := x
  obtain ⟨x1, x2⟩ := hx
  dsimp only at x1 x2
  refine p_br (n := 60) C rfl (fun hr => ?_) (fun hr => ?_)
  · have h : (n : Int) < 16 := of_decide_eq_true hr
    obtain ⟨k, hk⟩ : ∃ k, 16 - n = k + 1 := ⟨15 - n, by omega⟩
    rw [hk, fitsRk] at x2
    refine p_call (n := 60) C (pieceR_ok s f) rfl rfl fun _ _ => ?_
    refine p_br (n := 60) C rfl (fun hr2 => ?_) (fun hr2 => ?_)
    · have h2 : pieceRE s f ≠ 0 := by simpa using hr2
      rw [if_pos h2] at x2
      refine p_ret (n := 60) C Try.func66 rfl rfl rfl rfl () trivial ?_ rfl
      show i64 _ = i64 _
      rw [← x2]; rfl
    · have h2 : ¬ pieceRE s f ≠ 0 := by simpa using hr2
      rw [if_neg h2] at x2
      refine p_loop (n := 60) C rfl ?_
      refine p_weaken (st1 := I (n + 1, pieceRL s f)) id (ih (n + 1, pieceRL s f) ⟨by show n + 1 ≤ 16; omega, by show n + 1 + fitsRk s (16 - (n + 1)) (pieceRL s f) = _; rw [show 16 - (n + 1) = k by omega]; omega⟩ (by show 16 - (n + 1) < 16 - n; omega)) (.inl rfl) rfl ⟨?_, rfl, rfl, rfl, rfl, rfl, trivial⟩ ⟨⟨rfl, rfl, rfl⟩, Nat.le_of_ble_eq_true rfl, ⟨rfl, rfl, rfl⟩, Nat.le_of_ble_eq_true rfl, trivial⟩ rfl rfl rfl trivial
      show some (i64 _) = some (i64 _)
      dsimp only
      rw [wrapN (by omega)]
  · have h : ¬ (n : Int) < 16 := of_decide_eq_false hr
    have hn : n = 16 := by omega
    subst hn
    refine p_ret (n := 60) C Try.func66 rfl rfl rfl rfl () trivial ?_ rfl
    show i64 _ = i64 _
    rw [← x2]; rfl
def roomR (s : ShapeD) (l : List FreeD) : Int := l.foldl (fun n f => IntKind.i64.wrap (n + (fitsR s f : Int))) 0
theorem roomR_succ (s : ShapeD) {l : List FreeD} {j : Nat} (h : j < l.length) : roomR s (l.take (j + 1)) = IntKind.i64.wrap (roomR s (l.take j) + (fitsR s (l.getD j default) : Int)) := foldl_take_succ _ _ _ _ h
theorem roomR_ok (v : Sl FreeD) (s : ShapeD) (hl : v.l.length < 4294967296) : PureC Try.prog 45 [v.sv 4 FreeD.cs, .a s.cs] Unit (fun _ => i64 (roomR s v.l)) (fun _ => True) := by
  refine pureC_intro Try.func45 rfl rfl rfl (fun _ => rfl) (Nat.le_of_ble_eq_true rfl) fun XC w0 => ?_
  refine p_loop (n := 60) C rfl ?_
  let I : Nat → St := fun j => ⟨[(6, i64 (j : Int)), (0, v.sv 4 FreeD.cs), (5, i64 (roomR s (v.l.take j))), (3, .p 0 0)], [(0, .cells s.cs 30)], 22, 1, [], []⟩
  refine p_weaken (st1 := I 0) id (p_inv I (fun j => j ≤ v.l.length) (fun j => v.l.length - j) (fun j hj ih => ?_) 0 (Nat.zero_le _)) (.inl rfl) rfl ⟨rfl, rfl, rfl, rfl, rfl, rfl, rfl, rfl, trivial⟩ ⟨⟨rfl, rfl, rfl⟩, Nat.le_of_ble_eq_true rfl, trivial⟩ rfl rfl rfl trivial
  refine p_br (n := 60) C rfl (fun hr => ?_) (fun hr => ?_)
  · have h : (j : Int) < (v.l.length : Int) := of_decide_eq_true hr
    have hj2 : j < v.l.length := by omega
    refine p_at (n := 60) C rfl ?_
    refine p_draw C [] (.t 0 <| .t 1 <| .t 2 <| .t 3 <| .t 4 <| .t 5 <| .o 6 <| .t 7 <| .t 8 .d) (by kernel_rfl) (by kernel_rfl) ?_
    refine d_need C rfl (show _ ∧ _ from ⟨by omega, by omega⟩) ?_
    refine d_call C (fitsR_ok s (v.l.getD j default)) rfl fun _ _ => ?_
    refine d_fin C rfl ?_
    refine p_loop (n := 60) C rfl ?_
    refine p_weaken (st1 := I (j + 1)) id (ih (j + 1) (by omega) (by omega)) (.inl rfl) rfl ⟨?_, rfl, rfl, rfl, ?_, rfl, rfl, rfl, trivial⟩ ⟨⟨rfl, rfl, rfl⟩, Nat.le_of_ble_eq_true rfl, trivial⟩ rfl rfl rfl trivial
    · show some (i64 _) = some (i64 _)
      rw [wrapN (by omega)]
    · show some (i64 _) = some (i64 _)
      rw [roomR_succ s hj2]
  · have h : ¬ (j : Int) < (v.l.length : Int) := of_decide_eq_false hr
    have hj' : j = v.l.length := by omega
    subst hj'
    exact p_ret (n := 60) C Try.func45 rfl rfl rfl rfl () trivial (by rw [List.take_length]; rfl) rfl
def unitsRk (s : ShapeD) : Nat → UnitsD
  | 0 => ⟨0, 0⟩
  | j + 1 => ⟨IntKind.i64.wrap ((unitsRk s j).g + s.g), IntKind.i64.wrap ((unitsRk s j).c + s.c)⟩
theorem unitsR4_ok (s : ShapeD) (m : Int) (hm : m < 4294967296) : PureC Try.prog 44 [.a s.cs, i64 m] Unit (fun _ => .a (unitsRk s m.toNat).cs) (fun _ => True) := by
  refine pureC_intro Try.func44 rfl rfl rfl (fun _ => rfl) (Nat.le_of_ble_eq_true rfl) fun XC w0 => ?_
  refine p_loop (n := 60) C rfl ?_
  let I : Nat → St := fun j => ⟨[(6, i64 (j : Int)), (1, i64 m), (2, .p 0 0), (4, .p 1 0), (5, .p 2 0)], [(2, .cells (unitsRk s j).cs 41), (1, .cells [i64 0, i64 0] 41), (0, .cells s.cs 30)], 26, 3, [], []⟩
  refine p_weaken (st1 := I 0) id (p_inv I (fun j => j ≤ m.toNat) (fun j => m.toNat - j) (fun j hj ih => ?_) 0 (Nat.zero_le _)) (.inl rfl) rfl ⟨rfl, rfl, rfl, rfl, rfl, rfl, rfl, rfl, rfl, rfl, trivial⟩ ⟨⟨rfl, rfl, rfl⟩, Nat.le_of_ble_eq_true rfl, ⟨rfl, rfl, rfl⟩, Nat.le_of_ble_eq_true rfl, ⟨rfl, rfl, rfl⟩, Nat.le_of_ble_eq_true rfl, trivial⟩ rfl rfl rfl trivial
  refine p_br (n := 60) C rfl (fun hr => ?_) (fun hr => ?_)
  · have h : (j : Int) < m := of_decide_eq_true hr
    refine p_loop (n := 60) C rfl ?_
    refine p_weaken (st1 := I (j + 1)) id (ih (j + 1) (by omega) (by omega)) (.inl rfl) rfl ⟨?_, rfl, rfl, rfl, rfl, rfl, rfl, rfl, rfl, rfl, trivial⟩ ⟨⟨rfl, rfl, rfl⟩, Nat.le_of_ble_eq_true rfl, ⟨rfl, rfl, rfl⟩, Nat.le_of_ble_eq_true rfl, ⟨rfl, rfl, rfl⟩, Nat.le_of_ble_eq_true rfl, trivial⟩ rfl rfl rfl trivial
    show some (i64 _) = some (i64 _)
    rw [wrapN (by omega)]
  · have h : ¬ (j : Int) < m := of_decide_eq_false hr
    have hj' : j = m.toNat := by omega
    subst hj'
    exact p_ret (n := 60) C Try.func44 rfl rfl rfl rfl () trivial rfl rfl
def rightV (w : WantD) : Bool := decide (w.sh.chk = 0) && (decide (w.members ≥ 1) && decide (w.members ≤ 16))
theorem right12_ok (w : WantD) : PureC Try.prog 34 [.a w.cs] Unit (fun _ => bo (rightV w)) (fun _ => True) := by
  refine pureC_intro Try.func34 rfl rfl rfl (fun _ => rfl) (Nat.le_of_ble_eq_true rfl) fun XC w0 => ?_
  refine p_call (n := 60) C (rightR_ok w.sh) rfl rfl fun _ _ => ?_
  refine p_br (n := 60) C rfl (fun hr => ?_) (fun hr => ?_)
  · have h1 : w.sh.chk = 0 := by simpa using hr
    refine p_br (n := 60) C rfl (fun hr2 => ?_) (fun hr2 => ?_)
    · have h2 : w.members ≥ 1 := of_decide_eq_true hr2
      refine p_ret (n := 60) C Try.func34 rfl rfl rfl rfl () trivial ?_ rfl
      rw [rightV, decide_eq_true h1, decide_eq_true h2]; rfl
    · have h2 : ¬ w.members ≥ 1 := of_decide_eq_false hr2
      refine p_ret (n := 60) C Try.func34 rfl rfl rfl rfl () trivial ?_ rfl
      rw [rightV, decide_eq_false h2]; simp; rfl
  · have h1 : ¬ w.sh.chk = 0 := by simpa using hr
    refine p_br (n := 60) C rfl (fun h => absurd h (by decide)) (fun _ => ?_)
    refine p_ret (n := 60) C Try.func34 rfl rfl rfl rfl () trivial ?_ rfl
    rw [rightV, decide_eq_false h1]; rfl
def fits12V (v : List FreeD) (u : UnitsD) (w : WantD) : Bool := rightV w && ((decide ((unitsRk w.sh w.members.toNat).g ≤ u.g) && decide ((unitsRk w.sh w.members.toNat).c ≤ u.c)) && decide (roomR w.sh v ≥ w.members))
theorem fits12_ok (v : Sl FreeD) (u : UnitsD) (w : WantD) (hl : v.l.length < 4294967296) : PureC Try.prog 24 [v.sv 4 FreeD.cs, .a u.cs, .a w.cs] Unit (fun _ => bo (fits12V v.l u w)) (fun _ => True) := by
  refine pureC_intro Try.func24 rfl rfl rfl (fun _ => rfl) (Nat.le_of_ble_eq_true rfl) fun XC w0 => ?_
  refine p_call (n := 60) C (right12_ok w) rfl rfl fun _ _ => ?_
  refine p_br (n := 60) C rfl (fun hr => ?_) (fun hr => ?_)
  · have h1 : rightV w = false := by simpa using hr
    exact p_ret (n := 60) C Try.func24 rfl rfl rfl rfl () trivial (by rw [fits12V, h1]; rfl) rfl
  have h1 : rightV w = true := by simpa using hr
  have hm : w.members < 4294967296 := by
    simp [rightV] at h1; omega
  refine p_call (n := 60) C (unitsR4_ok w.sh w.members hm) rfl rfl fun _ _ => ?_
  refine p_at (n := 60) C rfl ?_
  refine p_draw C [] (.t 0 <| .t 1 <| .t 2 <| .t 3 <| .t 4 <| .t 5 <| .t 6 <| .t 7 <| .t 8 <| .t 9 <| .t 10 <| .t 11 <| .t 12 <| .t 13 <| .t 14 <| .t 15 <| .t 17 <| .t 18 <| .o 16 <| .t 19 <| .t 20 <| .t 21 .d) (by kernel_rfl) (by kernel_rfl) ?_
  refine d_br C rfl (fun hr2 => ?_) (fun hr2 => ?_)
  · have h2 : (unitsRk w.sh w.members.toNat).g ≤ u.g := of_decide_eq_true hr2
    refine d_br C rfl (fun hr3 => ?_) (fun hr3 => ?_)
    · have h3 : (unitsRk w.sh w.members.toNat).c ≤ u.c := of_decide_eq_true hr3
      refine d_call C (roomR_ok v w.sh hl) rfl fun _ _ => ?_
      refine d_fin C rfl ?_
      refine p_ret (n := 60) C Try.func24 rfl rfl rfl rfl () trivial ?_ rfl
      rw [fits12V, h1, decide_eq_true h2, decide_eq_true h3]; rfl
    · have h3 : ¬ (unitsRk w.sh w.members.toNat).c ≤ u.c := of_decide_eq_false hr3
      refine d_fin C rfl ?_
      refine p_ret (n := 60) C Try.func24 rfl rfl rfl rfl () trivial ?_ rfl
      rw [fits12V, h1, decide_eq_true h2, decide_eq_false h3]; rfl
  · have h2 : ¬ (unitsRk w.sh w.members.toNat).g ≤ u.g := of_decide_eq_false hr2
    refine d_br C rfl (fun h => absurd h (by decide)) (fun _ => ?_)
    refine d_fin C rfl ?_
    refine p_ret (n := 60) C Try.func24 rfl rfl rfl rfl () trivial ?_ rfl
    rw [fits12V, h1, decide_eq_false h2]; rfl
end Go.Proofs.Ytneddobmlcbabaa
namespace Go.Proofs.Ytneddobmlcbabaa
open Go.SE
open Go.RowKit
set_option maxRecDepth 100000
set_option maxHeartbeats 4000000

def units8 (u : UnitsD) (s : FreeD) : UnitsD := ⟨IntKind.i64.wrap (u.g + ((unitsTo s.m 64).length : Int)), IntKind.i64.wrap (u.c + s.c)⟩
def unitsOf (l : List FreeD) : UnitsD := l.foldl units8 ⟨0, 0⟩
theorem units8_ok (sl : Sl FreeD) (hl : sl.l.length < 4294967296) : PureC Try.prog 21 [sl.sv 4 FreeD.cs] Unit (fun _ => .a (unitsOf sl.l).cs) (fun _ => True) := by
  refine pureC_intro Try.func21 rfl rfl rfl (fun _ => rfl) (Nat.le_of_ble_eq_true rfl) fun XC w0 => ?_
  refine p_loop (n := 60) C rfl ?_
  let I : Nat → St := fun j => ⟨[(4, i64 (j : Int)), (0, sl.sv 4 FreeD.cs), (2, .p 0 0), (3, .p 1 0)], [(1, .cells ((sl.l.take j).foldl units8 ⟨0, 0⟩).cs 41), (0, .cells [i64 0, i64 0] 41)], 33, 2, [], []⟩
  refine p_weaken (st1 := I 0) id (p_inv I (fun j => j ≤ sl.l.length) (fun j => sl.l.length - j) (fun j hj ih => ?_) 0 (Nat.zero_le _)) (.inl rfl) rfl ⟨rfl, rfl, rfl, rfl, rfl, rfl, rfl, rfl, trivial⟩ ⟨⟨rfl, rfl, rfl⟩, Nat.le_of_ble_eq_true rfl, ⟨rfl, rfl, rfl⟩, Nat.le_of_ble_eq_true rfl, trivial⟩ rfl rfl rfl trivial
  refine p_br (n := 60) C rfl (fun hr => ?_) (fun hr => ?_)
  · have h : (j : Int) < (sl.l.length : Int) := of_decide_eq_true hr
    have hj2 : j < sl.l.length := by omega
    have hd : (0 : Int) ≤ (j : Int) ∧ (j : Int) < (sl.l.length : Int) := by omega
    refine p_at (n := 60) C rfl ?_
    refine p_draw C [1] (.t 0 <| .t 2 <| .t 3 <| .t 4 <| .t 5 <| .t 6 <| .f 1 (.o 7 <| .t 8 <| .t 9 <| .t 10 <| .o 11 .d) 7 (.t 8 <| .o 1 <| .t 9 <| .t 10 <| .o 11 .d)) (by kernel_rfl) (by kernel_rfl) ?_
    refine d_need C rfl ⟨hd, hd⟩ ?_
    refine d_fork C rfl (d1_ok C rfl (by kernel_rfl) rfl rfl (d_call C (unitsR_ok (sl.l.getD j default).m) rfl fun y _ => d_fin C rfl ?_)) (d1_call C rfl (by kernel_rfl) rfl (unitsR_ok (sl.l.getD j default).m) rfl fun y _ => d_fin C rfl ?_)
    all_goals
      refine p_at (n := 60) C rfl ?_
      refine p_draw C [1] (.t 0 <| .t 2 <| .t 3 <| .t 4 <| .t 5 <| .t 6 <| .r 1 <| .t 7 <| .t 8 <| .o 9 .d) (by kernel_rfl) (by kernel_rfl) ?_
      refine d_need C rfl ⟨hd, hd⟩ ?_
      refine d_fin C rfl ?_
      refine p_loop (n := 60) C rfl ?_
      refine p_weaken (st1 := I (j + 1)) id (ih (j + 1) (by omega) (by omega)) (.inl rfl) rfl ⟨?_, rfl, rfl, rfl, rfl, rfl, rfl, rfl, trivial⟩ ⟨⟨by rw [foldl_take_succ _ _ _ _ hj2]; rfl, rfl, rfl⟩, Nat.le_of_ble_eq_true rfl, ⟨rfl, rfl, rfl⟩, Nat.le_of_ble_eq_true rfl, trivial⟩ rfl rfl rfl trivial
      show some (i64 _) = some (i64 _)
      rw [wrapN (by omega)]
  · have h : ¬ (j : Int) < (sl.l.length : Int) := of_decide_eq_false hr
    have hj' : j = sl.l.length := by omega
    subst hj'
    exact p_ret (n := 60) C Try.func21 rfl rfl rfl rfl () trivial (by rw [unitsOf, List.take_length]; rfl) rfl
def allT (l : List HoldD) (t : Int) : List FreeD := allV (l.filter fun h => decide (h.until_ ≤ t))
theorem allT_le {l : List HoldD} (h : ∀ x ∈ l, x.slots.l.length ≤ 20) (t : Int) (j : Nat) : (allT (l.take j) t).length ≤ 20 * l.length := by
  have h1 := allV_le (l := (l.take j).filter fun h => decide (h.until_ ≤ t)) (fun x hx => h x (List.mem_of_mem_take (List.mem_filter.1 hx).1)) ((l.take j).filter fun h => decide (h.until_ ≤ t)).length
  rw [List.take_length] at h1
  have h2 : ((l.take j).filter fun h => decide (h.until_ ≤ t)).length ≤ l.length := Nat.le_trans (List.length_filter_le _ _) (by simp; omega)
  unfold allT
  omega
theorem allT_take {l : List HoldD} {t : Int} {j : Nat} (h : j < l.length) : allT (l.take (j + 1)) t = if (l.getD j default).until_ ≤ t then allT (l.take j) t ++ (l.getD j default).slots.l else allT (l.take j) t := by
  unfold allT allV
  rw [List.take_add_one, List.filter_append, List.flatMap_append]
  simp only [List.getD_eq_getElem?_getD, List.getElem?_eq_getElem h, Option.toList_some, Option.getD_some, List.filter_cons, List.filter_nil]
  by_cases hu : l[j].until_ ≤ t
  · simp [hu]
  · simp [hu]
theorem all12_ok (es : Sl HoldD) (t : Int) (hl : es.l.length ≤ 100) (hs : ∀ x ∈ es.l, x.slots.l.length ≤ 20) : PureC Try.prog 62 [es.sv 5 HoldD.cs, i64 t] (Option Addr × Nat) (fun y => Sl.sv 4 FreeD.cs ⟨y.1, y.2, allT es.l t⟩) (fun _ => True) := by
  refine pureC_intro Try.func62 rfl rfl rfl (fun _ => rfl) (Nat.le_of_ble_eq_true rfl) fun XC w0 => ?_
  refine p_loop (n := 60) C rfl ?_
  refine p_nilT 5 (e := 49) (k := 4) (by decide) (by exact Nat.le_of_ble_eq_true rfl) (by rfl) ?_
  let I : Nat → St := fun j => ⟨[(6, i64 (j : Int)), (0, es.sv 5 HoldD.cs), (1, i64 t), (5, .own 0)], [(0, .row 49 4 (allT (es.l.take j) t).length fun i => ((allT (es.l.take j) t).getD i default).cs)], 28, 1, [], []⟩
  refine p_weaken (st1 := I 0) id (p_inv I (fun j => j ≤ es.l.length) (fun j => es.l.length - j) (fun j hj ih => ?_) 0 (Nat.zero_le _)) (.inl rfl) rfl ⟨rfl, rfl, rfl, rfl, rfl, rfl, rfl, rfl, trivial⟩ ⟨⟨rfl, rfl, rfl, fun i hi => absurd hi (Nat.not_lt_zero _)⟩, Nat.le_of_ble_eq_true rfl, trivial⟩ rfl rfl rfl trivial
  refine p_br (n := 60) C rfl (fun hr => ?_) (fun hr => ?_)
  · have h : (j : Int) < (es.l.length : Int) := of_decide_eq_true hr
    have h : j < es.l.length := by omega
    have hmem : es.l.getD j default ∈ es.l := by
      simp [List.getD_eq_getElem?_getD, h]
    have h20 := hs _ hmem
    have ha := allT_le hs t j
    refine p_need (n := 60) C rfl (show (0 : Int) ≤ (j : Int) ∧ (j : Int) < (es.l.length : Int) by omega) ?_
    refine p_br (n := 60) C rfl (fun hr2 => ?_) (fun hr2 => ?_)
    · have h2 : (es.l.getD j default).until_ ≤ t := of_decide_eq_true hr2
      refine p_need (n := 60) C rfl (show (0 : Int) ≤ (j : Int) ∧ (j : Int) < (es.l.length : Int) by omega) ?_
      refine p_need (n := 60) C rfl ⟨by show (allT (es.l.take j) t).length + (es.l.getD j default).slots.l.length ≤ maxLen; simp only [maxLen]; omega, by show ((allT (es.l.take j) t).length + (es.l.getD j default).slots.l.length) * 32 ≤ _; omega⟩ ?_
      refine p_loop (n := 60) C rfl ?_
      refine p_weaken (st1 := I (j + 1)) (fun _ => 1) (ih (j + 1) (by omega) (by omega)) (.inl rfl) rfl ⟨?_, rfl, rfl, rfl, rfl, rfl, rfl, rfl, trivial⟩ ⟨⟨rfl, rfl, by show (allT (es.l.take j) t).length + (es.l.getD j default).slots.l.length = (allT (es.l.take (j + 1)) t).length; rw [allT_take h, if_pos h2, List.length_append], fun i hi => ?_⟩, Nat.le_of_ble_eq_true rfl, trivial⟩ rfl rfl rfl trivial
      · show some (i64 _) = some (i64 _)
        rw [wrapN (by omega)]
      · rw [allT_take h, if_pos h2] at hi ⊢
        exact appEl_appF _ _ _ (fun _ _ => rfl) i (by rw [← List.length_append]; exact hi)
    · have h2 : ¬ (es.l.getD j default).until_ ≤ t := of_decide_eq_false hr2
      refine p_loop (n := 60) C rfl ?_
      refine p_weaken (st1 := I (j + 1)) id (ih (j + 1) (by omega) (by omega)) (.inl rfl) rfl ⟨?_, rfl, rfl, rfl, rfl, rfl, rfl, rfl, trivial⟩ ⟨⟨rfl, rfl, by show (allT (es.l.take j) t).length = (allT (es.l.take (j + 1)) t).length; rw [allT_take h, if_neg h2], fun i hi => ?_⟩, Nat.le_of_ble_eq_true rfl, trivial⟩ rfl rfl rfl trivial
      · show some (i64 _) = some (i64 _)
        rw [wrapN (by omega)]
      · rw [allT_take h, if_neg h2] at hi ⊢
  · have h : ¬ (j : Int) < (es.l.length : Int) := of_decide_eq_false hr
    have h : j = es.l.length := by omega
    subst h
    refine p_at (n := 60) C rfl ?_
    refine p_frz 0 rfl fun A c => ?_
    exact p_ret (n := 60) C Try.func62 rfl rfl rfl rfl (A, c) trivial (by rw [List.take_length]; rfl) rfl
def atU (t : Int) (w : WantD) (u : UnitsD) (h : HoldD) : UnitsD := if h.until_ ≤ t ∧ h.queue = w.queue then ⟨IntKind.i64.wrap (u.g + (unitsOf h.slots.l).g), IntKind.i64.wrap (u.c + (unitsOf h.slots.l).c)⟩ else u
def atV (t : Int) (v : List FreeD) (u : UnitsD) (es : List HoldD) (w : WantD) : Bool := fits12V (ls (moreV v (allT es t))) (es.foldl (atU t w) u) w
theorem moreV_len : ∀ (sl o l : List FreeD), moreV o sl = .ok l → l.length = o.length
  | [], o, l, h => by cases h; rfl
  | s :: r, o, l, h => by
    simp only [moreV, List.foldlM_cons] at h
    cases hs : moreStep o s with
    | error e => rw [hs] at h; cases h
    | ok o2 =>
      rw [hs] at h
      have h2 := moreV_len r o2 l h
      have h3 : o2.length = o.length := by
        unfold moreStep at hs
        repeat' split at hs
        all_goals first | (cases hs; done) | (cases hs; exact List.length_set)
      omega
theorem lsMore_len (v sl : List FreeD) : (ls (moreV v sl)).length ≤ v.length := by
  cases hr : moreV v sl with
  | error e => simp [ls]
  | ok l => have := moreV_len _ _ _ hr; simp [ls]; omega
theorem at_ok (t : Int) (v : Sl FreeD) (u : UnitsD) (es : Sl HoldD) (w : WantD) (hv : v.l.length < 4294967296) (hl : es.l.length ≤ 100) (hs : ∀ x ∈ es.l, x.slots.l.length ≤ 20) :
    PureC Try.prog 35 [i64 t, v.sv 4 FreeD.cs, .a u.cs, es.sv 5 HoldD.cs, .a w.cs] Unit (fun _ => bo (atV t v.l u es.l w)) (fun _ => True) := by
  refine pureC_intro Try.func35 rfl rfl rfl (fun _ => rfl) (Nat.le_of_ble_eq_true rfl) fun XC w0 => ?_
  have hal := allT_le hs t es.l.length
  rw [List.take_length] at hal
  refine p_call (n := 60) C (all12_ok es t hl hs) rfl rfl fun y1 _ => ?_
  refine p_call (n := 60) C (PureC.uni (moreR_ok v ⟨y1.1, y1.2, allT es.l t⟩ hv (by show List.length (allT _ _) < _; omega))) rfl rfl fun y _ => ?_
  refine p_loop (n := 60) C rfl ?_
  let I : Nat → St := fun j => ⟨[(13, i64 (j : Int)), (11, Sl.sv 4 FreeD.cs ⟨y.1, y.2, ls (moreV v.l (allT es.l t))⟩), (3, es.sv 5 HoldD.cs), (0, i64 t), (7, .p 0 0), (9, .p 1 0)], [(1, .cells w.cs 53), (0, .cells ((es.l.take j).foldl (atU t w) u).cs 41)], 68, 2, [], []⟩
  refine p_weaken (st1 := I 0) id (p_inv I (fun j => j ≤ es.l.length) (fun j => es.l.length - j) (fun j hj ih => ?_) 0 (Nat.zero_le _)) (.inl rfl) rfl ⟨rfl, rfl, rfl, rfl, rfl, rfl, rfl, rfl, rfl, rfl, rfl, rfl, trivial⟩ ⟨⟨rfl, rfl, rfl⟩, Nat.le_of_ble_eq_true rfl, ⟨rfl, rfl, rfl⟩, Nat.le_of_ble_eq_true rfl, trivial⟩ rfl rfl rfl trivial
  refine p_br (n := 60) C rfl (fun hr => ?_) (fun hr => ?_)
  · have h : (j : Int) < (es.l.length : Int) := of_decide_eq_true hr
    have h : j < es.l.length := by omega
    have hd : (0 : Int) ≤ (j : Int) ∧ (j : Int) < (es.l.length : Int) := by omega
    have hmem : es.l.getD j default ∈ es.l := by
      simp [List.getD_eq_getElem?_getD, h]
    have h20 := hs _ hmem
    refine p_at (n := 60) C rfl ?_
    refine p_draw C [] (.t 0 <| .t 1 <| .t 2 <| .t 3 <| .t 4 <| .t 5 <| .t 6 <| .t 7 <| .t 8 <| .t 9 <| .t 10 <| .t 11 <| .t 12 <| .t 13 <| .t 14 <| .t 15 <| .t 16 .d) (by kernel_rfl) (by kernel_rfl) ?_
    refine d_need C rfl ⟨hd, hd⟩ ?_
    refine d_br C rfl (fun hr2 => ?_) (fun hr2 => ?_)
    · have h2 : (es.l.getD j default).until_ ≤ t := of_decide_eq_true hr2
      refine d_need C rfl ⟨hd, hd⟩ ?_
      refine d_fin C rfl ?_
      refine p_br (n := 60) C rfl (fun hr3 => ?_) (fun hr3 => ?_)
      · have h3 : (es.l.getD j default).queue = w.queue := by simpa using hr3
        refine p_need (n := 60) C rfl hd ?_
        refine p_call (n := 60) C (units8_ok (es.l.getD j default).slots (by omega)) rfl rfl fun _ _ => ?_
        refine p_loop (n := 60) C rfl ?_
        refine p_weaken (st1 := I (j + 1)) id (ih (j + 1) (by omega) (by omega)) (.inl rfl) rfl ⟨?_, rfl, rfl, rfl, rfl, rfl, rfl, rfl, rfl, rfl, rfl, rfl, trivial⟩ ⟨⟨rfl, rfl, rfl⟩, Nat.le_of_ble_eq_true rfl, ⟨by rw [foldl_take_succ _ _ _ _ h, atU, if_pos ⟨h2, h3⟩]; rfl, rfl, rfl⟩, Nat.le_of_ble_eq_true rfl, trivial⟩ rfl rfl rfl trivial
        show some (i64 _) = some (i64 _)
        rw [wrapN (by omega)]
      · have h3 : ¬ (es.l.getD j default).queue = w.queue := by simpa using hr3
        refine p_loop (n := 60) C rfl ?_
        refine p_weaken (st1 := I (j + 1)) id (ih (j + 1) (by omega) (by omega)) (.inl rfl) rfl ⟨?_, rfl, rfl, rfl, rfl, rfl, rfl, rfl, rfl, rfl, rfl, rfl, trivial⟩ ⟨⟨rfl, rfl, rfl⟩, Nat.le_of_ble_eq_true rfl, ⟨by rw [foldl_take_succ _ _ _ _ h, atU, if_neg (fun q => h3 q.2)]; rfl, rfl, rfl⟩, Nat.le_of_ble_eq_true rfl, trivial⟩ rfl rfl rfl trivial
        show some (i64 _) = some (i64 _)
        rw [wrapN (by omega)]
    · have h2 : ¬ (es.l.getD j default).until_ ≤ t := of_decide_eq_false hr2
      refine d_fin C rfl ?_
      refine p_br (n := 60) C rfl (fun hr3 => absurd hr3 (by decide)) (fun _ => ?_)
      refine p_loop (n := 60) C rfl ?_
      refine p_weaken (st1 := I (j + 1)) id (ih (j + 1) (by omega) (by omega)) (.inl rfl) rfl ⟨?_, rfl, rfl, rfl, rfl, rfl, rfl, rfl, rfl, rfl, rfl, rfl, trivial⟩ ⟨⟨rfl, rfl, rfl⟩, Nat.le_of_ble_eq_true rfl, ⟨by rw [foldl_take_succ _ _ _ _ h, atU, if_neg (fun q => h2 q.1)]; rfl, rfl, rfl⟩, Nat.le_of_ble_eq_true rfl, trivial⟩ rfl rfl rfl trivial
      show some (i64 _) = some (i64 _)
      rw [wrapN (by omega)]
  · have h : ¬ (j : Int) < (es.l.length : Int) := of_decide_eq_false hr
    have h : j = es.l.length := by omega
    subst h
    have hlm := lsMore_len v.l (allT es.l t)
    refine p_call (n := 60) C (fits12_ok ⟨y.1, y.2, ls (moreV v.l (allT es.l t))⟩ ((es.l.take es.l.length).foldl (atU t w) u) w (by show List.length (ls _) < _; omega)) rfl rfl fun _ _ => ?_
    exact p_ret (n := 60) C Try.func35 rfl rfl rfl rfl () trivial (by rw [List.take_length]; rfl) rfl
end Go.Proofs.Ytneddobmlcbabaa
namespace Go.Proofs.Ytneddobmlcbabaa
open Go.SE
open Go.RowKit
set_option maxRecDepth 100000
set_option maxHeartbeats 4000000

def bestStep (now : Int) (v : List FreeD) (u : UnitsD) (es : List HoldD) (w : WantD) (b : Int) (h : HoldD) : Int := if h.until_ > now ∧ h.until_ < b ∧ atV h.until_ v u es w = true then h.until_ else b
def earlR (now : Int) (v : List FreeD) (u : UnitsD) (es : List HoldD) (w : WantD) : Int × Int :=
  if now < 0 ∨ now > 1073741824 ∨ rightV w = false then (0, 1)
  else if er (moreV v (allV es)) ≠ 0 then (0, er (moreV v (allV es)))
  else if atV now v u es w = true then (now, 0)
  else (es.foldl (bestStep now v u es w) 1073741825, 0)
theorem earlR_ok (now : Int) (v : Sl FreeD) (u : UnitsD) (es : Sl HoldD) (w : WantD) (hv : v.l.length < 4294967296) (hl : es.l.length ≤ 100) (hs : ∀ x ∈ es.l, x.slots.l.length ≤ 20) :
    PureC Try.prog 15 [i64 now, v.sv 4 FreeD.cs, .a u.cs, es.sv 5 HoldD.cs, .a w.cs] Unit (fun _ => .t [i64 (earlR now v.l u es.l w).1, i64 (earlR now v.l u es.l w).2]) (fun _ => True) := by
  refine pureC_intro Try.func15 rfl rfl rfl (fun _ => rfl) (Nat.le_of_ble_eq_true rfl) fun XC w0 => ?_
  refine p_br (n := 60) C rfl (fun hr => ?_) (fun hr => ?_)
  · have h1 : now < 0 := of_decide_eq_true hr
    refine p_br (n := 60) C rfl (fun _ => ?_) (fun h => absurd h (by decide))
    refine p_br (n := 60) C rfl (fun _ => ?_) (fun h => absurd h (by decide))
    exact p_ret (n := 60) C Try.func15 rfl rfl rfl rfl () trivial (by rw [earlR, if_pos (Or.inl h1)]; rfl) rfl
  have h1 : ¬ now < 0 := of_decide_eq_false hr
  refine p_br (n := 60) C rfl (fun hr2 => ?_) (fun hr2 => ?_)
  · have h2 : now > 1073741824 := of_decide_eq_true hr2
    refine p_br (n := 60) C rfl (fun _ => ?_) (fun h => absurd h (by decide))
    exact p_ret (n := 60) C Try.func15 rfl rfl rfl rfl () trivial (by rw [earlR, if_pos (Or.inr (Or.inl h2))]; rfl) rfl
  have h2 : ¬ now > 1073741824 := of_decide_eq_false hr2
  refine p_call (n := 60) C (right12_ok w) rfl rfl fun _ _ => ?_
  refine p_br (n := 60) C rfl (fun hr3 => ?_) (fun hr3 => ?_)
  · have h3 : rightV w = false := by simpa using hr3
    exact p_ret (n := 60) C Try.func15 rfl rfl rfl rfl () trivial (by rw [earlR, if_pos (Or.inr (Or.inr h3))]; rfl) rfl
  have h3 : ¬ rightV w = false := by simpa using hr3
  have hno : ¬ (now < 0 ∨ now > 1073741824 ∨ rightV w = false) := by rintro (h | h | h); exact h1 h; exact h2 h; exact h3 h
  refine p_loop (n := 60) C rfl ?_
  refine p_nilT 12 (e := 49) (k := 4) (by decide) (by exact Nat.le_of_ble_eq_true rfl) (by rfl) ?_
  have hall : (allV es.l).length ≤ 20 * es.l.length := by
    have := allV_le hs es.l.length
    rwa [List.take_length] at this
  let J : Nat → St := fun j => ⟨[(13, i64 (j : Int)), (3, es.sv 5 HoldD.cs), (12, .own 2), (0, i64 now), (1, v.sv 4 FreeD.cs), (7, .p 0 0), (9, .p 1 0)], [(2, .row 49 4 (allV (es.l.take j)).length fun i => ((allV (es.l.take j)).getD i default).cs), (1, .cells w.cs 53), (0, .cells u.cs 41)], 88, 3, [], []⟩
  refine p_weaken (st1 := J 0) id (p_inv J (fun j => j ≤ es.l.length) (fun j => es.l.length - j) (fun j hj ih => ?_) 0 (Nat.zero_le _)) (.inl rfl) rfl ⟨rfl, rfl, rfl, rfl, rfl, rfl, rfl, rfl, rfl, rfl, rfl, rfl, rfl, rfl, trivial⟩ ⟨⟨rfl, rfl, rfl, fun i hi => absurd hi (Nat.not_lt_zero _)⟩, Nat.le_of_ble_eq_true rfl, ⟨rfl, rfl, rfl⟩, Nat.le_of_ble_eq_true rfl, ⟨rfl, rfl, rfl⟩, Nat.le_of_ble_eq_true rfl, trivial⟩ rfl rfl rfl trivial
  refine p_br (n := 60) C rfl (fun hr => ?_) (fun hr => ?_)
  · have h : (j : Int) < (es.l.length : Int) := of_decide_eq_true hr
    have h : j < es.l.length := by omega
    have hmem : es.l.getD j default ∈ es.l := by
      simp [List.getD_eq_getElem?_getD, h]
    have h20 := hs _ hmem
    have ha := allV_le hs j
    refine p_need (n := 60) C rfl (show (0 : Int) ≤ (j : Int) ∧ (j : Int) < (es.l.length : Int) by omega) ?_
    refine p_need (n := 60) C rfl ⟨by show (allV (es.l.take j)).length + (es.l.getD j default).slots.l.length ≤ maxLen; simp only [maxLen]; omega, by show ((allV (es.l.take j)).length + (es.l.getD j default).slots.l.length) * 32 ≤ _; omega⟩ ?_
    refine p_loop (n := 60) C rfl ?_
    refine p_weaken (st1 := J (j + 1)) (fun i => if i = 0 then 0 else if i = 1 then 1 else 3) (ih (j + 1) (by omega) (by omega)) (.inl rfl) rfl ⟨?_, rfl, rfl, rfl, rfl, rfl, rfl, rfl, rfl, rfl, rfl, rfl, rfl, rfl, trivial⟩ ⟨⟨rfl, rfl, by show (allV (es.l.take j)).length + (es.l.getD j default).slots.l.length = (allV (es.l.take (j + 1))).length; rw [allV_take h, List.length_append], fun i hi => ?_⟩, Nat.le_of_ble_eq_true rfl, ⟨rfl, rfl, rfl⟩, Nat.le_of_ble_eq_true rfl, ⟨rfl, rfl, rfl⟩, Nat.le_of_ble_eq_true rfl, trivial⟩ rfl rfl rfl trivial
    · show some (i64 _) = some (i64 _)
      rw [wrapN (by omega)]
    · rw [allV_take h] at hi ⊢
      exact appEl_appF _ _ _ (fun _ _ => rfl) i (by rw [← List.length_append]; exact hi)
  have h : ¬ (j : Int) < (es.l.length : Int) := of_decide_eq_false hr
  have h : j = es.l.length := by omega
  subst h
  clear ih
  refine p_at (n := 60) C rfl ?_
  refine p_frz 2 rfl fun A c => ?_
  rw [List.take_length]
  refine p_call (n := 60) C (PureC.uni (moreR_ok v ⟨A, c, allV es.l⟩ hv (by show List.length (allV _) < _; omega))) rfl rfl fun y _ => ?_
  refine p_br (n := 60) C rfl (fun hr4 => ?_) (fun hr4 => ?_)
  · have h4 : er (moreV v.l (allV es.l)) ≠ 0 := by simpa using hr4
    exact p_ret (n := 60) C Try.func15 rfl rfl rfl rfl () trivial (by rw [earlR, if_neg hno, if_pos h4]; rfl) rfl
  have h4 : ¬ er (moreV v.l (allV es.l)) ≠ 0 := by simpa using hr4
  refine p_call (n := 60) C (at_ok now v u es w hv hl hs) rfl rfl fun _ _ => ?_
  refine p_br (n := 60) C rfl (fun hr5 => ?_) (fun hr5 => ?_)
  · have h5 : atV now v.l u es.l w = true := by simpa using hr5
    exact p_ret (n := 60) C Try.func15 rfl rfl rfl rfl () trivial (by rw [earlR, if_neg hno, if_neg h4, if_pos h5]; rfl) rfl
  have h5 : ¬ atV now v.l u es.l w = true := by simpa using hr5
  have hE : earlR now v.l u es.l w = (es.l.foldl (bestStep now v.l u es.l w) 1073741825, 0) := by rw [earlR, if_neg hno, if_neg h4, if_neg h5]
  rw [hE]
  refine p_loop (n := 60) C rfl ?_
  let I : Nat → St := fun j => ⟨[(17, i64 (j : Int)), (3, es.sv 5 HoldD.cs), (16, i64 ((es.l.take j).foldl (bestStep now v.l u es.l w) 1073741825)), (0, i64 now), (1, v.sv 4 FreeD.cs), (7, .p 0 0), (9, .p 1 0)], [(1, .cells w.cs 53), (0, .cells u.cs 41)], 88, 2, [], []⟩
  refine p_weaken (st1 := I 0) id (p_inv I (fun j => j ≤ es.l.length) (fun j => es.l.length - j) (fun j hj ih => ?_) 0 (Nat.zero_le _)) (.inl rfl) rfl ⟨rfl, rfl, rfl, rfl, rfl, rfl, rfl, rfl, rfl, rfl, rfl, rfl, rfl, rfl, trivial⟩ ⟨⟨rfl, rfl, rfl⟩, Nat.le_of_ble_eq_true rfl, ⟨rfl, rfl, rfl⟩, Nat.le_of_ble_eq_true rfl, trivial⟩ rfl rfl rfl trivial
  refine p_br (n := 60) C rfl (fun hr => ?_) (fun hr => ?_)
  · have h : (j : Int) < (es.l.length : Int) := of_decide_eq_true hr
    have h : j < es.l.length := by omega
    refine p_need (n := 60) C rfl (show (0 : Int) ≤ (j : Int) ∧ (j : Int) < (es.l.length : Int) by omega) ?_
    refine p_br (n := 60) C rfl (fun hr6 => ?_) (fun hr6 => ?_)
    · have h6 : (es.l.getD j default).until_ > now := of_decide_eq_true hr6
      refine p_br (n := 60) C rfl (fun hr7 => ?_) (fun hr7 => ?_)
      · have h7 : (es.l.getD j default).until_ < (es.l.take j).foldl (bestStep now v.l u es.l w) 1073741825 := of_decide_eq_true hr7
        refine p_call (n := 60) C (at_ok (es.l.getD j default).until_ v u es w hv hl hs) rfl rfl fun _ _ => ?_
        refine p_br (n := 60) C rfl (fun hr8 => ?_) (fun hr8 => ?_)
        · have h8 : atV (es.l.getD j default).until_ v.l u es.l w = true := by simpa using hr8
          refine p_loop (n := 60) C rfl ?_
          refine p_weaken (st1 := I (j + 1)) id (ih (j + 1) (by omega) (by omega)) (.inl rfl) rfl ⟨?_, rfl, rfl, rfl, ?_, rfl, rfl, rfl, rfl, rfl, rfl, rfl, rfl, rfl, trivial⟩ ⟨⟨rfl, rfl, rfl⟩, Nat.le_of_ble_eq_true rfl, ⟨rfl, rfl, rfl⟩, Nat.le_of_ble_eq_true rfl, trivial⟩ rfl rfl rfl trivial
          · show some (i64 _) = some (i64 _)
            rw [wrapN (by omega)]
          · show some (i64 _) = some (i64 _)
            rw [foldl_take_succ _ _ _ _ h, bestStep, if_pos ⟨h6, h7, h8⟩]
            try rfl
        · have h8 : ¬ atV (es.l.getD j default).until_ v.l u es.l w = true := by simpa using hr8
          refine p_loop (n := 60) C rfl ?_
          refine p_weaken (st1 := I (j + 1)) id (ih (j + 1) (by omega) (by omega)) (.inl rfl) rfl ⟨?_, rfl, rfl, rfl, ?_, rfl, rfl, rfl, rfl, rfl, rfl, rfl, rfl, rfl, trivial⟩ ⟨⟨rfl, rfl, rfl⟩, Nat.le_of_ble_eq_true rfl, ⟨rfl, rfl, rfl⟩, Nat.le_of_ble_eq_true rfl, trivial⟩ rfl rfl rfl trivial
          · show some (i64 _) = some (i64 _)
            rw [wrapN (by omega)]
          · show some (i64 _) = some (i64 _)
            rw [foldl_take_succ _ _ _ _ h, bestStep, if_neg (fun q => h8 q.2.2)]
            try rfl
      · have h7 : ¬ (es.l.getD j default).until_ < (es.l.take j).foldl (bestStep now v.l u es.l w) 1073741825 := of_decide_eq_false hr7
        refine p_br (n := 60) C rfl (fun h => absurd h (by decide)) (fun _ => ?_)
        refine p_loop (n := 60) C rfl ?_
        refine p_weaken (st1 := I (j + 1)) id (ih (j + 1) (by omega) (by omega)) (.inl rfl) rfl ⟨?_, rfl, rfl, rfl, ?_, rfl, rfl, rfl, rfl, rfl, rfl, rfl, rfl, rfl, trivial⟩ ⟨⟨rfl, rfl, rfl⟩, Nat.le_of_ble_eq_true rfl, ⟨rfl, rfl, rfl⟩, Nat.le_of_ble_eq_true rfl, trivial⟩ rfl rfl rfl trivial
        · show some (i64 _) = some (i64 _)
          rw [wrapN (by omega)]
        · show some (i64 _) = some (i64 _)
          rw [foldl_take_succ _ _ _ _ h, bestStep, if_neg (fun q => h7 q.2.1)]
          try rfl
    · have h6 : ¬ (es.l.getD j default).until_ > now := of_decide_eq_false hr6
      refine p_br (n := 60) C rfl (fun h => absurd h (by decide)) (fun _ => ?_)
      refine p_br (n := 60) C rfl (fun h => absurd h (by decide)) (fun _ => ?_)
      refine p_loop (n := 60) C rfl ?_
      refine p_weaken (st1 := I (j + 1)) id (ih (j + 1) (by omega) (by omega)) (.inl rfl) rfl ⟨?_, rfl, rfl, rfl, ?_, rfl, rfl, rfl, rfl, rfl, rfl, rfl, rfl, rfl, trivial⟩ ⟨⟨rfl, rfl, rfl⟩, Nat.le_of_ble_eq_true rfl, ⟨rfl, rfl, rfl⟩, Nat.le_of_ble_eq_true rfl, trivial⟩ rfl rfl rfl trivial
      · show some (i64 _) = some (i64 _)
        rw [wrapN (by omega)]
      · show some (i64 _) = some (i64 _)
        rw [foldl_take_succ _ _ _ _ h, bestStep, if_neg (fun q => h6 q.1)]
        try rfl
  · have h : ¬ (j : Int) < (es.l.length : Int) := of_decide_eq_false hr
    have h : j = es.l.length := by omega
    subst h
    exact p_ret (n := 60) C Try.func15 rfl rfl rfl rfl () trivial (by rw [List.take_length]; rfl) rfl
end Go.Proofs.Ytneddobmlcbabaa
namespace Go.Proofs.Ytneddobmlcbabaa
open Go.SE
open Go.RowKit
set_option maxRecDepth 100000
set_option maxHeartbeats 4000000

theorem same_ok (a b : Sl FreeD) (ha : a.l.length < 4294967296) : PureC Try.prog 13 [a.sv 4 FreeD.cs, b.sv 4 FreeD.cs] Bool (fun y => bo y) (fun y => a.l = b.l → y = true) := by
  refine pureC_intro Try.func13 rfl rfl rfl (fun _ => rfl) (Nat.le_of_ble_eq_true rfl) fun XC w0 => ?_
  refine p_br (n := 60) C rfl (fun hr => ?_) (fun hr => ?_)
  · have h1 : ¬ (a.l.length : Int) = (b.l.length : Int) := by simpa using hr
    exact p_ret (n := 60) C Try.func13 rfl rfl rfl rfl false (fun h => absurd (by rw [h]) h1) rfl rfl
  have h1 : (a.l.length : Int) = (b.l.length : Int) := by simpa using hr
  refine p_loop (n := 60) C rfl ?_
  let I : Nat → St := fun j => ⟨[(5, i64 (j : Int)), (0, a.sv 4 FreeD.cs), (1, b.sv 4 FreeD.cs)], [], 26, 0, [], []⟩
  refine p_weaken (st1 := I 0) id (p_inv I (fun j => j ≤ a.l.length) (fun j => a.l.length - j) (fun j hj ih => ?_) 0 (Nat.zero_le _)) (.inl rfl) rfl ⟨rfl, rfl, rfl, rfl, rfl, rfl, trivial⟩ trivial rfl rfl rfl trivial
  refine p_br (n := 60) C rfl (fun hr => ?_) (fun hr => ?_)
  · have h : (j : Int) < (a.l.length : Int) := of_decide_eq_true hr
    have hj2 : j < a.l.length := by omega
    have hd : (0 : Int) ≤ (j : Int) ∧ (j : Int) < (a.l.length : Int) := by omega
    have hd2 : (0 : Int) ≤ (j : Int) ∧ (j : Int) < (b.l.length : Int) := by omega
    refine p_at (n := 60) C rfl ?_
    refine p_draw C [] (.t 0 <| .t 1 <| .t 2 <| .t 3 <| .t 4 <| .t 5 <| .t 6 <| .t 7 <| .t 8 .d) (by kernel_rfl) (by kernel_rfl) ?_
    refine d_need C rfl ⟨hd, hd⟩ ?_
    refine d_need C rfl ⟨hd2, hd2⟩ ?_
    refine d_fin C rfl ?_
    refine p_br (n := 60) C rfl (fun hr2 => ?_) (fun hr2 => ?_)
    · refine p_ret (n := 60) C Try.func13 rfl rfl rfl rfl false (fun h => ?_) rfl rfl
      rw [h] at hr2
      simp at hr2
    · refine p_loop (n := 60) C rfl ?_
      refine p_weaken (st1 := I (j + 1)) id (ih (j + 1) (by omega) (by omega)) (.inl rfl) rfl ⟨?_, rfl, rfl, rfl, rfl, rfl, trivial⟩ trivial rfl rfl rfl trivial
      show some (i64 _) = some (i64 _)
      rw [wrapN (by omega)]
  · exact p_ret (n := 60) C Try.func13 rfl rfl rfl rfl true (fun _ => rfl) rfl rfl
def growP (L : LookD) (j : JobD) : List FreeD := ls (placeV L.view.l j.sh 1)
def growE (L : LookD) (h : HoldD) (j : JobD) : Int :=
  if leftE L j ≠ 0 then leftE L j else if (h.slots.l.length : Int) ≥ j.sh.mx then 2 else if canV L.view.l j.sh 1 (leftU L j) ≠ 0 then canV L.view.l j.sh 1 (leftU L j)
  else if safeV sfV L j.id j.queue h.until_ (growP L j) = true then 0 else 5
def growS (L : LookD) (h : HoldD) (j : JobD) : FreeD := if growE L h j = 0 then (growP L j).getD 0 default else ⟨0, 0, 0, 0⟩
theorem growP_len {L : LookD} {j : JobD} (hF : FewP L) (h1 : leftE L j = 0) (h2 : canV L.view.l j.sh 1 (leftU L j) = 0) : ∃ x, growP L j = [x] ∧ placeV L.view.l j.sh 1 = .ok [x] := by
  have hr := (canV0.1 h2).1
  obtain ⟨l, hl⟩ := placeF.ok (v := L.view.l) (s := j.sh) (n := 1) (by have := hF.view; omega) (fun f hf => by
      obtain ⟨i, hi, rfl⟩ := List.getElem_of_mem hf
      have := hF.right i hi
      rw [List.getD_eq_getElem?_getD, List.getElem?_eq_getElem hi] at this
      exact ⟨this.1, this.2.1⟩) (leftE0 h1).1 (by decide) (by decide) hr
  have hn := placeF.len hl
  have : l.length = 1 := by omega
  obtain ⟨x, rfl⟩ := List.length_eq_one_iff.1 this
  exact ⟨x, by unfold growP; rw [hl]; rfl, hl⟩
theorem grow_ok (L : LookD) (h : HoldD) (j : JobD) (hF : FewP L) (_hh : h.slots.l.length < 4294967296) : PureC Try.prog 11 [.a L.cs, .a h.cs, .a j.cs] Unit (fun _ => .t [.a (growS L h j).cs, i64 (growE L h j)]) (fun _ => True) := by
  refine pureC_intro Try.func11 rfl rfl rfl (fun _ => rfl) (Nat.le_of_ble_eq_true rfl) fun XC w0 => ?_
  have hB := hF.big
  have hv := hB.view
  have no : ∀ e, growE L h j = e → e ≠ 0 → retV [.a [i64 0, i64 0, u64 0, i64 0], i64 e] = .t [.a (growS L h j).cs, i64 (growE L h j)] := fun e q h0 => by rw [growS, q, if_neg h0]; rfl
  refine p_call (n := 60) C (left_ok L j) rfl rfl fun _ _ => ?_
  refine p_br (n := 60) C rfl (fun hr => ?_) (fun hr => ?_)
  · have h1 : leftE L j ≠ 0 := by simpa using hr
    exact p_ret (n := 60) C Try.func11 rfl rfl rfl rfl () trivial (no _ (by rw [growE, if_pos h1]) h1) rfl
  have h1 : ¬ leftE L j ≠ 0 := by simpa using hr
  refine p_br (n := 60) C rfl (fun hr2 => ?_) (fun hr2 => ?_)
  · have h2 : (h.slots.l.length : Int) ≥ j.sh.mx := of_decide_eq_true hr2
    exact p_ret (n := 60) C Try.func11 rfl rfl rfl rfl () trivial (no 2 (by rw [growE, if_neg h1, if_pos h2]) (by decide)) rfl
  have h2 : ¬ (h.slots.l.length : Int) ≥ j.sh.mx := of_decide_eq_false hr2
  refine p_call (n := 60) C (can_ok L j.sh 1 (leftU L j) hv) rfl rfl fun _ _ => ?_
  refine p_br (n := 60) C rfl (fun hr3 => ?_) (fun hr3 => ?_)
  · have h3 : canV L.view.l j.sh 1 (leftU L j) ≠ 0 := by simpa using hr3
    exact p_ret (n := 60) C Try.func11 rfl rfl rfl rfl () trivial (no _ (by rw [growE, if_neg h1, if_neg h2, if_pos h3]) h3) rfl
  have h3 : ¬ canV L.view.l j.sh 1 (leftU L j) ≠ 0 := by simpa using hr3
  obtain ⟨x, hx, hx2⟩ := growP_len hF (Decidable.not_not.1 h1) (Decidable.not_not.1 h3)
  have hP := PureC.uni (place_ok L.view j.sh 1 hv)
  refine p_call (n := 60) C hP rfl rfl fun y _ => ?_
  refine p_call (n := 60) C (safe_ok safe14_ok L ⟨j.id, j.queue, h.until_, false, ⟨y.1, y.2, ls (placeV L.view.l j.sh 1)⟩⟩ hB ⟨hF.view, hF.ends, hF.slots, by show List.length (growP L j) ≤ 20; rw [hx]; simp⟩) rfl rfl fun _ _ => ?_
  refine p_br (n := 60) C rfl (fun hr4 => ?_) (fun hr4 => ?_)
  · have h4' : safeV sfV L j.id j.queue h.until_ (ls (placeV L.view.l j.sh 1)) = false := by simpa using hr4
    have h4 : safeV sfV L j.id j.queue h.until_ (growP L j) = false := h4'
    exact p_ret (n := 60) C Try.func11 rfl rfl rfl rfl () trivial (no 5 (by rw [growE, if_neg h1, if_neg h2, if_neg h3, if_neg (by rw [h4]; simp)]) (by decide)) rfl
  have h4' : safeV sfV L j.id j.queue h.until_ (ls (placeV L.view.l j.sh 1)) = true := by simpa using hr4
  have h4 : safeV sfV L j.id j.queue h.until_ (growP L j) = true := h4'
  refine p_need (n := 60) C rfl (show (0 : Int) ≤ 0 ∧ (0 : Int) < ((growP L j).length : Int) by rw [hx]; simp) ?_
  have hE : growE L h j = 0 := by rw [growE, if_neg h1, if_neg h2, if_neg h3, if_pos h4]
  refine p_ret (n := 60) C Try.func11 rfl rfl rfl rfl () trivial ?_ rfl
  rw [growS, if_pos hE, hE]
  rfl
end Go.Proofs.Ytneddobmlcbabaa
