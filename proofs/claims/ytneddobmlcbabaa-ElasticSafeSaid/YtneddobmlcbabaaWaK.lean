/- A walk by symbols over the given program, a part of it: lemmas alone; what is claimed stands in the last text. No conditions of its own. -/
import Derived.Test.YtneddobmlcbabaaWaJ
import Derived.Test.YtneddobmlcbabaaWaD
set_option linter.unusedVariables false
set_option linter.unusedSimpArgs false
namespace Go.Proofs.Ytneddobmlcbabaa
open Go.SE
open Go.RowKit
open Go.PS
set_option maxRecDepth 100000
set_option maxHeartbeats 4000000

theorem insBlocks_len (lt : FreeD → FreeD → Bool) (n : Nat) : ∀ (f a : Nat) (L : List FreeD), (insBlocks lt n f a L).length = L.length
  | 0, a, L => insSort_len _ _ _ _
  | f + 1, a, L => by
    simp only [insBlocks]
    split
    · rw [insBlocks_len lt n f, insSort_len]
    · exact insSort_len _ _ _ _
theorem mergePass_len (lt : FreeD → FreeD → Bool) (k n : Nat) : ∀ (f a : Nat) (L : List FreeD), (mergePass lt k n f a L).length = L.length
  | 0, a, L => by
    simp only [mergePass]
    split
    · exact symM_len _ _ _ _ _ _
    · rfl
  | f + 1, a, L => by
    simp only [mergePass]
    split
    · rw [mergePass_len lt k n f, symM_len]
    · split
      · exact symM_len _ _ _ _ _ _
      · rfl
theorem insBlocks_end (lt : FreeD → FreeD → Bool) (n f a : Nat) (L : List FreeD) (h : ¬ a + 20 ≤ n) : insBlocks lt n f a L = insSort lt a n L := by
  cases f with
  | zero => rfl
  | succ f => simp only [insBlocks, if_neg h]
theorem mergePass_end (lt : FreeD → FreeD → Bool) (k n f a : Nat) (L : List FreeD) (h : ¬ a + 2 * k ≤ n) : mergePass lt k n f a L = if a + k < n then symM lt n a (a + k) n L else L := by
  cases f with
  | zero => rfl
  | succ f => simp only [mergePass, if_neg h]
theorem mergeAll_end (lt : FreeD → FreeD → Bool) (n f k : Nat) (L : List FreeD) (h : ¬ k < n) : mergeAll lt n f k L = L := by
  cases f with
  | zero => rfl
  | succ f => simp only [mergeAll, if_neg h]
theorem wrapT {k : Nat} (h : 2 * k < 9223372036854775807) : IntKind.i64.wrap (2 * (k : Int)) = ((2 * k : Nat) : Int) := by
  simp [IntKind.wrap, IntKind.bits, IntKind.signed]; omega
theorem wrapT' {k : Nat} (h : 2 * k < 9223372036854775807) : IntKind.i64.wrap ((k : Int) * 2) = ((2 * k : Nat) : Int) := by
  simp [IntKind.wrap, IntKind.bits, IntKind.signed]; omega
theorem stable_ok (s : ShapeD) (L : List FreeD) (hL : L.length < 4294967296) : MutC Try.prog 70 [sDat, i64 (L.length : Int)] (sOb s L) 3 Unit (fun _ => .t []) (fun _ => sOb s (stable (ltF s) L)) (fun _ => 3) (fun _ => True) := by
  refine mutC_intro Try.func70 rfl rfl (Nat.le_of_ble_eq_true rfl) fun XC X0 w0 Ei ga hgh => ?_
  obtain ⟨n, hn⟩ : ∃ n, n = L.length := ⟨_, rfl⟩
  refine p_loop (n := 60) C rfl ?_
  let I : Nat × Nat × List FreeD → St := fun x => ⟨[(5, i64 x.2.1), (6, i64 (x.2.1 + 20 : Nat)), (1, i64 (n : Int)), (4, i64 20), (2, .p 3 0)], dBox :: sOb s x.2.2, 57, 4, [], [ghost ga 3]⟩
  refine p_weaken (st1 := I (n, 0, L)) id (p_inv I (fun x => insBlocks (ltF s) n x.1 x.2.1 x.2.2 = insBlocks (ltF s) n n 0 L ∧ x.2.2.length = n ∧ x.2.1 ≤ n ∧ n - x.2.1 ≤ x.1) (fun x => n - x.2.1) (fun x hx ih => ?_) (n, 0, L) ⟨rfl, hn.symm, Nat.zero_le _, by show n - 0 ≤ n; omega⟩) (.inl rfl) rfl ⟨rfl, rfl, rfl, rfl, ?_, rfl, rfl, rfl, rfl, rfl, trivial⟩
    ⟨⟨rfl, rfl, rfl⟩, Nat.le_of_ble_eq_true rfl, ⟨rfl, rfl, rfl⟩, Nat.le_of_ble_eq_true rfl, ⟨rfl, rfl, rfl⟩, Nat.le_of_ble_eq_true rfl, ⟨rfl, rfl, rfl, fun _ _ => rfl⟩, Nat.le_of_ble_eq_true rfl, trivial⟩ rfl rfl rfl (sus_ghost (fun _ _ => rfl) (Nat.le_of_ble_eq_true rfl))
  rotate_left
  · show some (i64 _) = some (i64 _)
    rw [hn]
  obtain ⟨f, a, L1⟩ := x
  obtain ⟨x1, x2, x3, x4⟩ := hx
  dsimp only at x1 x2 x3 x4
  refine p_br (n := 60) C rfl (fun qr => ?_) (fun qr => ?_)
  · have q : ((a + 20 : Nat) : Int) ≤ (n : Int) := of_decide_eq_true qr
    have q : a + 20 ≤ n := by omega
    obtain ⟨f, rfl⟩ : ∃ f', f = f' + 1 := ⟨f - 1, by omega⟩
    rw [insBlocks, if_pos q] at x1
    refine p_at (n := 60) C rfl ?_
    refine p_callM C id (insertionSort_ok s L1 a (a + 20) (by omega) (by omega) (by omega)) rfl rfl rfl rfl rfl rfl ⟨⟨rfl, rfl, rfl⟩, Nat.le_of_ble_eq_true rfl, ⟨rfl, rfl, rfl⟩, Nat.le_of_ble_eq_true rfl, ⟨rfl, rfl, rfl, fun _ _ => rfl⟩, Nat.le_of_ble_eq_true rfl, trivial⟩ rfl fun _ _ => ?_
    refine p_loop (n := 60) C rfl ?_
    refine p_weaken (st1 := I (f, a + 20, insSort (ltF s) a (a + 20) L1)) id (ih (f, a + 20, insSort (ltF s) a (a + 20) L1) ⟨x1, by show (insSort _ _ _ _).length = _; rw [insSort_len, x2], q, by show n - (a + 20) ≤ f; omega⟩ (by show n - (a + 20) < n - a; omega)) (.inl rfl) rfl ⟨rfl, rfl, ?_, rfl, rfl, rfl, rfl, rfl, rfl, rfl, trivial⟩
      ⟨⟨rfl, rfl, rfl⟩, Nat.le_of_ble_eq_true rfl, ⟨rfl, rfl, rfl⟩, Nat.le_of_ble_eq_true rfl, ⟨rfl, rfl, rfl⟩, Nat.le_of_ble_eq_true rfl, ⟨rfl, rfl, rfl, fun _ _ => rfl⟩, Nat.le_of_ble_eq_true rfl, trivial⟩ rfl rfl rfl (sus_ghost (fun _ _ => rfl) (Nat.le_of_ble_eq_true rfl))
    show some (i64 _) = some (i64 _)
    dsimp only
    rw [show (20 : Int) = ((20 : Nat) : Int) from rfl, wrapA (by omega)]
  have q : ¬ ((a + 20 : Nat) : Int) ≤ (n : Int) := of_decide_eq_false qr
  have q : ¬ a + 20 ≤ n := by omega
  rw [insBlocks_end _ _ _ _ _ q] at x1
  refine p_at (n := 60) C rfl ?_
  refine p_callM C id (insertionSort_ok s L1 a n (by omega) (by omega) (by omega)) rfl rfl rfl rfl rfl rfl ⟨⟨rfl, rfl, rfl⟩, Nat.le_of_ble_eq_true rfl, ⟨rfl, rfl, rfl⟩, Nat.le_of_ble_eq_true rfl, ⟨rfl, rfl, rfl, fun _ _ => rfl⟩, Nat.le_of_ble_eq_true rfl, trivial⟩ rfl fun _ _ => ?_
  rw [x1]
  have hl0 : (insBlocks (ltF s) n n 0 L).length = n := by rw [insBlocks_len, hn]
  have htgt : stable (ltF s) L = mergeAll (ltF s) n n 20 (insBlocks (ltF s) n n 0 L) := by rw [stable, ← hn]
  clear x1 x2 x3 x4 ih q
  generalize insBlocks (ltF s) n n 0 L = L2 at hl0 htgt
  refine p_loop (n := 60) C rfl ?_
  let J : Nat × Nat × List FreeD → St := fun x => ⟨[(4, i64 x.2.1), (1, i64 (n : Int)), (2, .p 3 0)], dBox :: sOb s x.2.2, 57, 4, [], [ghost ga 3]⟩
  refine p_weaken (st1 := J (n, 20, L2)) id (p_inv J (fun x => mergeAll (ltF s) n x.1 x.2.1 x.2.2 = stable (ltF s) L ∧ x.2.2.length = n ∧ 0 < x.2.1 ∧ n - x.2.1 ≤ x.1) (fun x => n - x.2.1) (fun x hx ih => ?_) (n, 20, L2) ⟨htgt.symm, hl0, by show 0 < 20; omega, by show n - 20 ≤ n; omega⟩) (.inl rfl) rfl ⟨rfl, rfl, rfl, rfl, rfl, rfl, trivial⟩
    ⟨⟨rfl, rfl, rfl⟩, Nat.le_of_ble_eq_true rfl, ⟨rfl, rfl, rfl⟩, Nat.le_of_ble_eq_true rfl, ⟨rfl, rfl, rfl⟩, Nat.le_of_ble_eq_true rfl, ⟨rfl, rfl, rfl, fun _ _ => rfl⟩, Nat.le_of_ble_eq_true rfl, trivial⟩ rfl rfl rfl (sus_ghost (fun _ _ => rfl) (Nat.le_of_ble_eq_true rfl))
  clear htgt hl0
  obtain ⟨f, k, L3⟩ := x
  obtain ⟨x1, x2, x3, x4⟩ := hx
  dsimp only at x1 x2 x3 x4
  refine p_br (n := 60) C rfl (fun qr => ?_) (fun qr => ?_)
  · have q : (k : Int) < (n : Int) := of_decide_eq_true qr
    have q : k < n := by omega
    obtain ⟨f, rfl⟩ : ∃ f', f = f' + 1 := ⟨f - 1, by omega⟩
    rw [mergeAll, if_pos q] at x1
    refine p_loop (n := 60) C rfl ?_
    let K : Nat × Nat × List FreeD → St := fun y => ⟨[(5, i64 y.2.1), (6, i64 (y.2.1 + 2 * k : Nat)), (4, i64 (k : Int)), (1, i64 (n : Int)), (2, .p 3 0)], dBox :: sOb s y.2.2, 57, 4, [], [ghost ga 3]⟩
    refine p_weaken (st1 := K (n, 0, L3)) id (p_inv K (fun y => mergePass (ltF s) k n y.1 y.2.1 y.2.2 = mergePass (ltF s) k n n 0 L3 ∧ y.2.2.length = n ∧ y.2.1 ≤ n ∧ n - y.2.1 ≤ y.1) (fun y => n - y.2.1) (fun y hy ih2 => ?_) (n, 0, L3) ⟨rfl, x2, Nat.zero_le _, by show n - 0 ≤ n; omega⟩) (.inl rfl) rfl ⟨rfl, rfl, ?_, rfl, rfl, rfl, rfl, rfl, rfl, rfl, trivial⟩
      ⟨⟨rfl, rfl, rfl⟩, Nat.le_of_ble_eq_true rfl, ⟨rfl, rfl, rfl⟩, Nat.le_of_ble_eq_true rfl, ⟨rfl, rfl, rfl⟩, Nat.le_of_ble_eq_true rfl, ⟨rfl, rfl, rfl, fun _ _ => rfl⟩, Nat.le_of_ble_eq_true rfl, trivial⟩ rfl rfl rfl (sus_ghost (fun _ _ => rfl) (Nat.le_of_ble_eq_true rfl))
    rotate_left
    · show some (i64 _) = some (i64 _)
      dsimp only
      rw [wrapT (by omega), Nat.zero_add]
    obtain ⟨f2, a, L4⟩ := y
    obtain ⟨y1, y2, y3, y4⟩ := hy
    dsimp only at y1 y2 y3 y4
    refine p_br (n := 60) C rfl (fun q2r => ?_) (fun q2r => ?_)
    · have q2 : ((a + 2 * k : Nat) : Int) ≤ (n : Int) := of_decide_eq_true q2r
      have q2 : a + 2 * k ≤ n := by omega
      obtain ⟨f2, rfl⟩ : ∃ f', f2 = f' + 1 := ⟨f2 - 1, by omega⟩
      rw [mergePass, if_pos q2] at y1
      refine p_at (n := 60) C rfl ?_
      refine p_callM C id (symMerge_ok s n a (a + k) (a + 2 * k) L4 (by omega) (by omega) (by omega) (by omega) (by omega)) rfl rfl ?_ rfl rfl rfl ⟨⟨rfl, rfl, rfl⟩, Nat.le_of_ble_eq_true rfl, ⟨rfl, rfl, rfl⟩, Nat.le_of_ble_eq_true rfl, ⟨rfl, rfl, rfl, fun _ _ => rfl⟩, Nat.le_of_ble_eq_true rfl, trivial⟩ rfl fun _ _ => ?_
      · show [_, _, i64 _, _] = [_, _, i64 _, _]
        dsimp only
        rw [wrapA (by omega)]; rfl
      refine p_loop (n := 60) C rfl ?_
      refine p_weaken (st1 := K (f2, a + 2 * k, symM (ltF s) n a (a + k) (a + 2 * k) L4)) id (ih2 (f2, a + 2 * k, symM (ltF s) n a (a + k) (a + 2 * k) L4) ⟨y1, by show (symM _ _ _ _ _ _).length = _; rw [symM_len, y2], q2, by show n - (a + 2 * k) ≤ f2; omega⟩ (by show n - (a + 2 * k) < n - a; omega)) (.inl rfl) rfl ⟨rfl, rfl, ?_, rfl, rfl, rfl, rfl, rfl, rfl, rfl, trivial⟩
        ⟨⟨rfl, rfl, rfl⟩, Nat.le_of_ble_eq_true rfl, ⟨rfl, rfl, rfl⟩, Nat.le_of_ble_eq_true rfl, ⟨rfl, rfl, rfl⟩, Nat.le_of_ble_eq_true rfl, ⟨rfl, rfl, rfl, fun _ _ => rfl⟩, Nat.le_of_ble_eq_true rfl, trivial⟩ rfl rfl rfl (sus_ghost (fun _ _ => rfl) (Nat.le_of_ble_eq_true rfl))
      show some (i64 _) = some (i64 _)
      dsimp only
      rw [wrapT (by omega), wrapA (by omega)]
    have q2 : ¬ ((a + 2 * k : Nat) : Int) ≤ (n : Int) := of_decide_eq_false q2r
    have q2 : ¬ a + 2 * k ≤ n := by omega
    rw [mergePass_end _ _ _ _ _ _ q2] at y1
    rw [← y1] at x1
    refine p_br (n := 60) C rfl (fun q3r => ?_) (fun q3r => ?_)
    · have q3 : IntKind.i64.wrap ((a : Int) + (k : Int)) < (n : Int) := of_decide_eq_true q3r
      rw [wrapA (by omega)] at q3
      have q3 : a + k < n := by omega
      rw [if_pos q3] at x1
      refine p_at (n := 60) C rfl ?_
      refine p_callM C id (symMerge_ok s n a (a + k) n L4 (by omega) (by omega) (by omega) (by omega) (by omega)) rfl rfl ?_ rfl rfl rfl ⟨⟨rfl, rfl, rfl⟩, Nat.le_of_ble_eq_true rfl, ⟨rfl, rfl, rfl⟩, Nat.le_of_ble_eq_true rfl, ⟨rfl, rfl, rfl, fun _ _ => rfl⟩, Nat.le_of_ble_eq_true rfl, trivial⟩ rfl fun _ _ => ?_
      · show [_, _, i64 _, _] = [_, _, i64 _, _]
        dsimp only
        rw [wrapA (by omega)]; rfl
      refine p_loop (n := 60) C rfl ?_
      refine p_weaken (st1 := J (f, 2 * k, symM (ltF s) n a (a + k) n L4)) id (ih (f, 2 * k, symM (ltF s) n a (a + k) n L4) ⟨x1, by show (symM _ _ _ _ _ _).length = _; rw [symM_len, y2], by show 0 < 2 * k; omega, by show n - 2 * k ≤ f; omega⟩ (by show n - 2 * k < n - k; omega)) (.inl rfl) rfl ⟨?_, rfl, rfl, rfl, rfl, rfl, trivial⟩
        ⟨⟨rfl, rfl, rfl⟩, Nat.le_of_ble_eq_true rfl, ⟨rfl, rfl, rfl⟩, Nat.le_of_ble_eq_true rfl, ⟨rfl, rfl, rfl⟩, Nat.le_of_ble_eq_true rfl, ⟨rfl, rfl, rfl, fun _ _ => rfl⟩, Nat.le_of_ble_eq_true rfl, trivial⟩ rfl rfl rfl (sus_ghost (fun _ _ => rfl) (Nat.le_of_ble_eq_true rfl))
      show some (i64 _) = some (i64 _)
      dsimp only
      rw [wrapT' (by omega)]
    · have q3 : ¬ IntKind.i64.wrap ((a : Int) + (k : Int)) < (n : Int) := of_decide_eq_false q3r
      rw [wrapA (by omega)] at q3
      have q3 : ¬ a + k < n := by omega
      rw [if_neg q3] at x1
      refine p_loop (n := 60) C rfl ?_
      refine p_weaken (st1 := J (f, 2 * k, L4)) id (ih (f, 2 * k, L4) ⟨x1, y2, by show 0 < 2 * k; omega, by show n - 2 * k ≤ f; omega⟩ (by show n - 2 * k < n - k; omega)) (.inl rfl) rfl ⟨?_, rfl, rfl, rfl, rfl, rfl, trivial⟩
        ⟨⟨rfl, rfl, rfl⟩, Nat.le_of_ble_eq_true rfl, ⟨rfl, rfl, rfl⟩, Nat.le_of_ble_eq_true rfl, ⟨rfl, rfl, rfl⟩, Nat.le_of_ble_eq_true rfl, ⟨rfl, rfl, rfl, fun _ _ => rfl⟩, Nat.le_of_ble_eq_true rfl, trivial⟩ rfl rfl rfl (sus_ghost (fun _ _ => rfl) (Nat.le_of_ble_eq_true rfl))
      show some (i64 _) = some (i64 _)
      dsimp only
      rw [wrapT' (by omega)]
  · have q : ¬ (k : Int) < (n : Int) := of_decide_eq_false qr
    have q : ¬ k < n := by omega
    rw [mergeAll_end _ _ _ _ _ q] at x1
    rw [← x1]
    refine p_at (n := 60) C rfl ?_
    refine p_weaken (st1 := ⟨[], sOb s L3, 57, 3, [], [ghost ga 3]⟩) id ?_ (.inl rfl) rfl trivial ⟨⟨rfl, rfl, rfl⟩, Nat.le_of_ble_eq_true rfl, ⟨rfl, rfl, rfl⟩, Nat.le_of_ble_eq_true rfl, ⟨rfl, rfl, rfl, fun _ _ => rfl⟩, Nat.le_of_ble_eq_true rfl, trivial⟩ rfl rfl rfl (sus_ghost (fun _ _ => rfl) (Nat.le_refl _))
    exact p_retM (n := 60) C hgh Try.func70 rfl rfl rfl rfl rfl () trivial (Nat.le_refl _) rfl rfl rfl
end Go.Proofs.Ytneddobmlcbabaa
namespace Go.Proofs.Ytneddobmlcbabaa
open Go.SE
open Go.RowKit
open Go.PS
set_option maxRecDepth 100000
set_option maxHeartbeats 4000000

theorem ext68 (args : Array Value) (W : World) : (callFunc 68 args).run Try.prog W = ((Extern.ReflectliteValue.unpack (args.getD 0 (.tuple #[]))).run Try.prog W).andThen fun v w' => .ok (.value v) w' :=
  run_callFunc_extern (e := fun args => Extern.ReflectliteValue.unpack (args.getD 0 (.tuple #[]))) Try.func68 (by kernel_rfl) (by kernel_rfl) (by kernel_rfl) (by kernel_rfl) args W
theorem ext69 (args : Array Value) (W : World) : (callFunc 69 args).run Try.prog W = ((Extern.ReflectliteSwapper.swapper "internal/reflectlite" (Extern.ReflectliteValue.valueError "Swapper") args).run Try.prog W).andThen fun v w' => .ok (.value v) w' :=
  run_callFunc_extern (e := Extern.ReflectliteSwapper.swapper "internal/reflectlite" (Extern.ReflectliteValue.valueError "Swapper")) Try.func69 (by kernel_rfl) (by kernel_rfl) (by kernel_rfl) (by kernel_rfl) args W
theorem ext71 (args : Array Value) (W : World) : (callFunc 71 args).run Try.prog W = ((Extern.ReflectliteValue.method (Extern.ReflectliteValue.valueError "reflectlite.Value.Len" 0) Extern.ReflectliteValue.len args).run Try.prog W).andThen fun v w' => .ok (.value v) w' :=
  run_callFunc_extern (e := Extern.ReflectliteValue.method (Extern.ReflectliteValue.valueError "reflectlite.Value.Len" 0) Extern.ReflectliteValue.len) Try.func71 (by kernel_rfl) (by kernel_rfl) (by kernel_rfl) (by kernel_rfl) args W
noncomputable def vT : TypeInfo := (Try.prog.info? 22).get (by kernel_rfl)
noncomputable def vE : TypeInfo := (Try.prog.info? 73).get (by kernel_rfl)
theorem vT_eq : Try.prog.info? 22 = some vT := by kernel_rfl
theorem vE_eq : Try.prog.info? 73 = some vE := by kernel_rfl
theorem vT_desc : vT.desc = .slice 73 := by kernel_rfl
theorem vT_packed : Try.prog.packed 22 = false := by kernel_rfl
theorem vE_kind (w : World) : (Extern.Rtype.kind 73).run Try.prog w = .ok 25 w := by kernel_rfl
theorem vK (n : Nat) : Lib.swapperK n vE 25 = if n = 0 then 1 else if n = 1 then 2 else 9 := by
  have a : vE.hasPointers = false := by kernel_rfl
  have b : vE.bytes = 32 := by kernel_rfl
  unfold Lib.swapperK
  simp [a, b]
theorem vF0 : Try.prog.funcs.findIdx? (·.name == "internal/reflectlite" ++ ".Swapper$" ++ toString 1) = some 89 := by kernel_rfl
theorem vF1 : Try.prog.funcs.findIdx? (·.name == "internal/reflectlite" ++ ".Swapper$" ++ toString 2) = some 90 := by kernel_rfl
theorem vF9 : Try.prog.funcs.findIdx? (·.name == "internal/reflectlite" ++ ".Swapper$" ++ toString 9) = some 97 := by kernel_rfl

/-- no element, or one: nothing is done, whatever the swap -/
theorem insertionSort0_ok (s : ShapeD) (L : List FreeD) (g a b : Nat) (h1 : b ≤ a + 1) (ha : a < 4294967296) : MutC Try.prog 98 [.a [.f (.func 53) [.p 1 0, .p 2 0], .f (.func g) []], i64 a, i64 b] (sOb s L) 3 Unit (fun _ => .t []) (fun _ => sOb s L) (fun _ => 3) (fun _ => True) := by
  refine mutC_intro Try.func98 rfl rfl (Nat.le_of_ble_eq_true rfl) fun XC X0 w0 Ei ga hgh => ?_
  refine p_loop (n := 60) C rfl ?_
  refine p_br (n := 60) C rfl (fun h => ?_) (fun h => ?_)
  · have h : IntKind.i64.wrap ((a : Int) + 1) < (b : Int) := of_decide_eq_true h
    rw [wrapN (by omega)] at h
    omega
  · refine p_at (n := 60) C rfl ?_
    refine p_weaken (st1 := ⟨[], sOb s L, 35, 3, [], [ghost ga 3]⟩) id ?_ (.inl rfl) rfl trivial ⟨⟨rfl, rfl, rfl⟩, Nat.le_of_ble_eq_true rfl, ⟨rfl, rfl, rfl⟩, Nat.le_of_ble_eq_true rfl, ⟨rfl, rfl, rfl, fun _ _ => rfl⟩, Nat.le_of_ble_eq_true rfl, trivial⟩ rfl rfl rfl (sus_ghost (fun _ _ => rfl) (Nat.le_refl _))
    exact p_retM (n := 60) C hgh Try.func98 rfl rfl rfl rfl rfl () trivial (Nat.le_refl _) rfl rfl rfl
theorem stable0_ok (s : ShapeD) (L : List FreeD) (g n : Nat) (h1 : n ≤ 1) : MutC Try.prog 70 [.a [.f (.func 53) [.p 1 0, .p 2 0], .f (.func g) []], i64 n] (sOb s L) 3 Unit (fun _ => .t []) (fun _ => sOb s L) (fun _ => 3) (fun _ => True) := by
  refine mutC_intro Try.func70 rfl rfl (Nat.le_of_ble_eq_true rfl) fun XC X0 w0 Ei ga hgh => ?_
  refine p_loop (n := 60) C rfl ?_
  refine p_br (n := 60) C rfl (fun h => ?_) (fun h => ?_)
  · have h : (20 : Int) ≤ (n : Int) := of_decide_eq_true h
    omega
  refine p_at (n := 60) C rfl ?_
  refine p_callM C id (insertionSort0_ok s L g 0 n (by omega) (by omega)) rfl rfl rfl rfl rfl rfl ⟨⟨rfl, rfl, rfl⟩, Nat.le_of_ble_eq_true rfl, ⟨rfl, rfl, rfl⟩, Nat.le_of_ble_eq_true rfl, ⟨rfl, rfl, rfl, fun _ _ => rfl⟩, Nat.le_of_ble_eq_true rfl, trivial⟩ rfl fun _ _ => ?_
  refine p_loop (n := 60) C rfl ?_
  refine p_br (n := 60) C rfl (fun h => ?_) (fun h => ?_)
  · have h : (20 : Int) < (n : Int) := of_decide_eq_true h
    omega
  refine p_at (n := 60) C rfl ?_
  refine p_weaken (st1 := ⟨[], sOb s L, 57, 3, [], [ghost ga 3]⟩) id ?_ (.inl rfl) rfl trivial ⟨⟨rfl, rfl, rfl⟩, Nat.le_of_ble_eq_true rfl, ⟨rfl, rfl, rfl⟩, Nat.le_of_ble_eq_true rfl, ⟨rfl, rfl, rfl, fun _ _ => rfl⟩, Nat.le_of_ble_eq_true rfl, trivial⟩ rfl rfl rfl (sus_ghost (fun _ _ => rfl) (Nat.le_refl _))
  exact p_retM (n := 60) C hgh Try.func70 rfl rfl rfl rfl rfl () trivial (Nat.le_refl _) rfl rfl rfl
theorem stable_small (lt : FreeD → FreeD → Bool) {L : List FreeD} (h : L.length ≤ 1) : stable lt L = L := by
  match L, h with
  | [], _ => rfl
  | [x], _ => rfl
theorem sliceStable_ok (s : ShapeD) (L : List FreeD) (hL : L.length < 4294967296) : MutC Try.prog 52 [.ifc 22 (.own 0), .f (.func 53) [.p 1 0, .p 2 0]] (sOb s L) 3 Unit (fun _ => .t []) (fun _ => sOb s (stable (ltF s) L)) (fun _ => 3) (fun _ => True) := by
  refine mutC_intro Try.func52 rfl rfl (Nat.le_of_ble_eq_true rfl) fun XC X0 w0 Ei ga hgh => ?_
  refine p_at (n := 60) C rfl ?_
  refine p_valueOf C ext68 0 22 73 vT_eq vT_desc rfl rfl rfl rfl ?_
  refine p_at (n := 60) C rfl ?_
  by_cases h2 : 2 ≤ L.length
  · have hK : Lib.swapperK L.length vE 25 = 9 := by rw [vK, if_neg (by omega), if_neg (by omega)]
    refine p_swapper C ext69 0 22 73 vT_eq vT_desc vE_eq 25 vE_kind (n := L.length) 97 (by rw [hK]; exact vF9) rfl rfl rfl rfl ?_
    rw [hK]
    refine p_at (n := 60) C rfl ?_
    refine p_valueLen C ext71 0 3 22 73 vT_eq vT_desc vT_packed rfl rfl rfl rfl rfl ?_
    refine p_at (n := 60) C rfl ?_
    refine p_callM C id (stable_ok s L hL) rfl rfl rfl rfl rfl rfl ⟨⟨rfl, rfl, rfl⟩, Nat.le_of_ble_eq_true rfl, ⟨rfl, rfl, rfl⟩, Nat.le_of_ble_eq_true rfl, ⟨rfl, rfl, rfl, fun _ _ => rfl⟩, Nat.le_of_ble_eq_true rfl, trivial⟩ rfl fun _ _ => ?_
    refine p_at (n := 60) C rfl ?_
    refine p_weaken (st1 := ⟨[], sOb s (stable (ltF s) L), 16, 3, [], [ghost ga 3]⟩) id ?_ (.inl rfl) rfl trivial ⟨⟨rfl, rfl, rfl⟩, Nat.le_of_ble_eq_true rfl, ⟨rfl, rfl, rfl⟩, Nat.le_of_ble_eq_true rfl, ⟨rfl, rfl, rfl, fun _ _ => rfl⟩, Nat.le_of_ble_eq_true rfl, trivial⟩ rfl rfl rfl (sus_ghost (fun _ _ => rfl) (Nat.le_refl _))
    exact p_retM (n := 60) C hgh Try.func52 rfl rfl rfl rfl rfl () trivial (Nat.le_refl _) rfl rfl rfl
  · obtain ⟨g, hg⟩ : ∃ g, Try.prog.funcs.findIdx? (·.name == "internal/reflectlite" ++ ".Swapper$" ++ toString (Lib.swapperK L.length vE 25)) = some g := by
      rw [vK]
      by_cases h0 : L.length = 0
      · rw [if_pos h0]; exact ⟨89, vF0⟩
      · rw [if_neg h0, if_pos (by omega)]; exact ⟨90, vF1⟩
    have hK : Lib.swapperK L.length vE 25 ≤ 2 := by rw [vK]; repeat' split
                                                    all_goals omega
    rw [stable_small (ltF s) (by omega : L.length ≤ 1)]
    refine p_swapper C ext69 0 22 73 vT_eq vT_desc vE_eq 25 vE_kind (n := L.length) g hg rfl rfl rfl rfl ?_
    rw [if_pos hK]
    refine p_at (n := 60) C rfl ?_
    refine p_valueLen C ext71 0 3 22 73 vT_eq vT_desc vT_packed rfl rfl rfl rfl rfl ?_
    refine p_at (n := 60) C rfl ?_
    refine p_callM C id (stable0_ok s L g L.length (by omega)) rfl rfl rfl rfl rfl rfl ⟨⟨rfl, rfl, rfl⟩, Nat.le_of_ble_eq_true rfl, ⟨rfl, rfl, rfl⟩, Nat.le_of_ble_eq_true rfl, ⟨rfl, rfl, rfl, fun _ _ => rfl⟩, Nat.le_of_ble_eq_true rfl, trivial⟩ rfl fun _ _ => ?_
    refine p_at (n := 60) C rfl ?_
    refine p_weaken (st1 := ⟨[], sOb s L, 16, 3, [], [ghost ga 3]⟩) id ?_ (.inl rfl) rfl trivial ⟨⟨rfl, rfl, rfl⟩, Nat.le_of_ble_eq_true rfl, ⟨rfl, rfl, rfl⟩, Nat.le_of_ble_eq_true rfl, ⟨rfl, rfl, rfl, fun _ _ => rfl⟩, Nat.le_of_ble_eq_true rfl, trivial⟩ rfl rfl rfl (sus_ghost (fun _ _ => rfl) (Nat.le_refl _))
    exact p_retM (n := 60) C hgh Try.func52 rfl rfl rfl rfl rfl () trivial (Nat.le_refl _) rfl rfl rfl
end Go.Proofs.Ytneddobmlcbabaa
namespace Go.Proofs.Ytneddobmlcbabaa
open Go.SE
open Go.RowKit
open Go.PS
set_option maxRecDepth 100000
set_option maxHeartbeats 4000000

/-- at most k pieces of a spot -/
def cutL (s : ShapeD) : Nat → FreeD → List FreeD
  | 0, _ => []
  | k + 1, f => if pieceE s f ≠ 0 then [] else pieceS s f :: cutL s k (pieceL s f)
def placeL (s : ShapeD) (n : Nat) : List FreeD → List FreeD → List FreeD
  | [], out => out
  | f :: r, out => placeL s n r (out ++ cutL s (n - out.length) f)
def placeV : PlaceT := fun v s n => if s.chk ≠ 0 ∨ n < 1 ∨ n > 16 then .error 1 else if (placeL s n.toNat (stable (ltF s) v) []).length < n.toNat then .error 7 else .ok (placeL s n.toNat (stable (ltF s) v) [])
theorem cutL_len (s : ShapeD) : ∀ (k : Nat) (f : FreeD), (cutL s k f).length ≤ k
  | 0, _ => Nat.le_refl _
  | k + 1, f => by
    simp only [cutL]
    split
    · simp
    · simp only [List.length_cons]
      have := cutL_len s k (pieceL s f)
      omega
theorem placeL_len (s : ShapeD) (n : Nat) : ∀ (l out : List FreeD), out.length ≤ n → (placeL s n l out).length ≤ n
  | [], out, h => h
  | f :: r, out, h => by
    simp only [placeL]
    refine placeL_len s n r _ ?_
    have := cutL_len s (n - out.length) f
    simp; omega
theorem stable_len (lt : FreeD → FreeD → Bool) (L : List FreeD) : (stable lt L).length = L.length := by
  have h : ∀ (n f k : Nat) (L : List FreeD), (mergeAll lt n f k L).length = L.length := by
    intro n f
    induction f with
    | zero => intro k L; rfl
    | succ f ih =>
      intro k L
      simp only [mergeAll]
      split
      · rw [ih, mergePass_len]
      · rfl
  rw [stable, h, insBlocks_len]
theorem appEl_snocF (out : List FreeD) (p : FreeD) (i : Nat) (hi : i < out.length + 1) : appEl out.length (fun j => (out.getD j default).cs) (rowEl 4 p.cs) i = ((out ++ [p]).getD i default).cs := by
  simp only [appEl]
  by_cases h : i < out.length
  · rw [if_pos h]
    simp [List.getD_eq_getElem?_getD, List.getElem?_append_left h]
  · have : i = out.length := by omega
    subst this
    rw [if_neg h]
    simp [List.getD_eq_getElem?_getD, rowEl, FreeD.cs]
theorem place_ok : PlaceC placeV := by
  intro v s n hl
  refine pureC_intro Try.func30 rfl rfl rfl (fun _ => resL_pure _ _ _) (Nat.le_of_ble_eq_true rfl) fun XC w0 => ?_
  have bad : (s.chk ≠ 0 ∨ n < 1 ∨ n > 16) → retV [.v (.slice none 0 0), i64 1] = resL none 0 (placeV v.l s n) := fun h => by rw [placeV, if_pos h]; rfl
  refine p_call (n := 60) C (check_ok s.g s.c s.mn s.mx) rfl rfl fun _ _ => ?_
  refine p_br (n := 60) C rfl (fun h1 => ?_) (fun h1 => ?_)
  · have h1 : s.chk ≠ 0 := (by simpa using h1 : checkV s.g s.c s.mn s.mx ≠ 0)
    refine p_br (n := 60) C rfl (fun _ => ?_) (fun h => absurd h (by decide))
    refine p_br (n := 60) C rfl (fun _ => ?_) (fun h => absurd h (by decide))
    exact p_ret (n := 60) C Try.func30 rfl rfl rfl rfl (none, 0) trivial (bad (.inl h1)) (resL_pure _ _ _)
  have h1 : s.chk = 0 := (by simpa using h1 : checkV s.g s.c s.mn s.mx = 0)
  refine p_br (n := 60) C rfl (fun h2 => ?_) (fun h2 => ?_)
  · have h2 : n < 1 := of_decide_eq_true h2
    refine p_br (n := 60) C rfl (fun _ => ?_) (fun h => absurd h (by decide))
    exact p_ret (n := 60) C Try.func30 rfl rfl rfl rfl (none, 0) trivial (bad (.inr (.inl h2))) (resL_pure _ _ _)
  have h2 : ¬ n < 1 := of_decide_eq_false h2
  refine p_br (n := 60) C rfl (fun h3 => ?_) (fun h3 => ?_)
  · have h3 : n > 16 := of_decide_eq_true h3
    exact p_ret (n := 60) C Try.func30 rfl rfl rfl rfl (none, 0) trivial (bad (.inr (.inr h3))) (resL_pure _ _ _)
  have h3 : ¬ n > 16 := of_decide_eq_false h3
  clear bad
  obtain ⟨N, rfl⟩ : ∃ N : Nat, n = (N : Int) := ⟨n.toNat, by omega⟩
  have hV : placeV v.l s N = if (placeL s N (stable (ltF s) v.l) []).length < N then .error 7 else .ok (placeL s N (stable (ltF s) v.l) []) := by
    unfold placeV
    rw [if_neg (show ¬ (s.chk ≠ 0 ∨ (N : Int) < 1 ∨ (N : Int) > 16) by rintro (h | h | h); exact h h1; exact h2 h; exact h3 h)]
    rw [Int.toNat_natCast]
  refine p_callO (n := 60) C (cloneF_ok v hl) rfl rfl ?_
  refine p_at (n := 60) C rfl ?_
  refine p_callM C (fun i => if i = 0 then 1 else if i = 1 then 0 else 2) (sliceStable_ok s v.l hl) rfl rfl rfl rfl rfl rfl ⟨⟨rfl, rfl, rfl⟩, Nat.le_of_ble_eq_true rfl, ⟨rfl, rfl, rfl⟩, Nat.le_of_ble_eq_true rfl, ⟨rfl, rfl, rfl, fun _ _ => rfl⟩, Nat.le_of_ble_eq_true rfl, trivial⟩ rfl fun _ _ => ?_
  have hsl : (stable (ltF s) v.l).length = v.l.length := stable_len _ _
  generalize stable (ltF s) v.l = l at hV hsl
  refine p_loop (n := 60) C rfl ?_
  refine p_nilT 9 (e := 49) (k := 4) (by decide) (by exact Nat.le_of_ble_eq_true rfl) (by rfl) ?_
  let I : Nat × List FreeD → St := fun x => ⟨[(34, i64 (x.1 : Int)), (33, i64 (l.length : Int)), (32, .own 1), (4, .p 0 0), (2, i64 (N : Int)), (9, .own 2)], [(2, .row 49 4 x.2.length fun i => (x.2.getD i default).cs), (1, .row 73 4 l.length fun i => (l.getD i default).cs), (0, .cells s.cs 30)], 62, 3, [], []⟩
  refine p_weaken (st1 := I (0, [])) (fun i => if i = 0 then 0 else if i = 1 then 1 else 3) (p_inv I (fun x => x.1 ≤ l.length ∧ x.2.length ≤ N ∧ placeL s N (l.drop x.1) x.2 = placeL s N l []) (fun x => l.length - x.1) (fun x hx ih => ?_) (0, []) ⟨Nat.zero_le _, Nat.zero_le _, rfl⟩) (.inl rfl) rfl ⟨rfl, rfl, rfl, rfl, rfl, rfl, rfl, rfl, rfl, rfl, rfl, rfl, trivial⟩ ⟨⟨rfl, rfl, rfl, fun i hi => absurd hi (Nat.not_lt_zero _)⟩, Nat.le_of_ble_eq_true rfl, ⟨rfl, rfl, rfl, fun _ _ => rfl⟩, Nat.le_of_ble_eq_true rfl, ⟨rfl, rfl, rfl⟩, Nat.le_of_ble_eq_true rfl, trivial⟩ rfl rfl rfl trivial
  obtain ⟨j, out⟩ := x
  obtain ⟨hj, hol, hf⟩ := hx
  dsimp only at hj hol hf
  refine p_br (n := 60) C rfl (fun h => ?_) (fun h => ?_)
  · have h : (j : Int) < (l.length : Int) := of_decide_eq_true h
    have hjn : j < l.length := by omega
    refine p_need (n := 60) C rfl (show (0 : Int) ≤ (j : Int) ∧ (j : Int) < (l.length : Int) by omega) ?_
    refine p_need (n := 60) C rfl hjn ?_
    have hd : l.drop j = l.getD j default :: l.drop (j + 1) := by
      rw [List.drop_eq_getElem_cons hjn]
      simp [List.getD_eq_getElem?_getD, hjn]
    rw [hd, placeL] at hf
    refine p_loop (n := 60) C rfl ?_
    let J : Nat × FreeD × List FreeD → St := fun x => ⟨[(11, .p 3 0), (34, i64 (j : Int)), (33, i64 (l.length : Int)), (32, .own 1), (4, .p 0 0), (2, i64 (N : Int)), (9, .own 2)], [(3, .cells x.2.1.cs 73), (2, .row 49 4 x.2.2.length fun i => (x.2.2.getD i default).cs), (1, .row 73 4 l.length fun i => (l.getD i default).cs), (0, .cells s.cs 30)], 62, 4, [], []⟩
    refine p_weaken (st1 := J (N - out.length, l.getD j default, out)) id (p_inv J (fun x => x.2.2.length + x.1 = N ∧ x.2.2 ++ cutL s x.1 x.2.1 = out ++ cutL s (N - out.length) (l.getD j default)) (fun x => x.1) (fun x hx ih2 => ?_) (N - out.length, l.getD j default, out) ⟨by show out.length + (N - out.length) = N; omega, rfl⟩) (.inl rfl) rfl ⟨rfl, rfl, rfl, rfl, rfl, rfl, rfl, rfl, rfl, rfl, rfl, rfl, rfl, rfl, trivial⟩ ⟨⟨rfl, rfl, rfl⟩, Nat.le_of_ble_eq_true rfl, ⟨rfl, rfl, rfl, fun _ _ => rfl⟩, Nat.le_of_ble_eq_true rfl, ⟨rfl, rfl, rfl, fun _ _ => rfl⟩, Nat.le_of_ble_eq_true rfl, ⟨rfl, rfl, rfl⟩, Nat.le_of_ble_eq_true rfl, trivial⟩ rfl rfl rfl trivial
    obtain ⟨k, f, out2⟩ := x
    obtain ⟨x1, x2⟩ := hx
    dsimp only at x1 x2
    refine p_br (n := 60) C rfl (fun q1 => ?_) (fun q1 => ?_)
    · have q1 : (out2.length : Int) < (N : Int) := of_decide_eq_true q1
      obtain ⟨k, rfl⟩ : ∃ k', k = k' + 1 := ⟨k - 1, by omega⟩
      refine p_call (n := 60) C (piece_ok s f) rfl rfl fun _ _ => ?_
      refine p_br (n := 60) C rfl (fun q2 => ?_) (fun q2 => ?_)
      · have q2 : pieceE s f ≠ 0 := by simpa using q2
        rw [cutL, if_pos q2, List.append_nil] at x2
        refine p_loop (n := 60) C rfl ?_
        refine p_weaken (st1 := I (j + 1, out2)) id (ih (j + 1, out2) ⟨hjn, by show out2.length ≤ N; omega, by show placeL s N (l.drop (j + 1)) out2 = _; rw [x2]; exact hf⟩ (by show l.length - (j + 1) < l.length - j; omega)) (.inl rfl) rfl ⟨?_, rfl, rfl, rfl, rfl, rfl, rfl, rfl, rfl, rfl, rfl, rfl, trivial⟩ ⟨⟨rfl, rfl, rfl, fun _ _ => rfl⟩, Nat.le_of_ble_eq_true rfl, ⟨rfl, rfl, rfl, fun _ _ => rfl⟩, Nat.le_of_ble_eq_true rfl, ⟨rfl, rfl, rfl⟩, Nat.le_of_ble_eq_true rfl, trivial⟩ rfl rfl rfl trivial
        show some (i64 _) = some (i64 _)
        dsimp only
        rw [wrapN (by omega)]
      · have q2 : ¬ pieceE s f ≠ 0 := by simpa using q2
        rw [cutL, if_neg q2] at x2
        refine p_at (n := 60) C rfl ?_
        refine p_draw C [2, 3] (.t 0 <| .t 1 <| .t 4 <| .o 2 <| .w <| .o 3 <| .o 5 <| .o 6 .d) (by kernel_rfl) (by kernel_rfl) ?_
        refine d_need C rfl ⟨by show out2.length + 1 ≤ maxLen; simp only [maxLen]; omega, by show (out2.length + 1) * 32 ≤ _; omega⟩ ?_
        refine d_fin C rfl ?_
        refine p_loop (n := 60) C rfl ?_
        refine p_weaken (st1 := J (k, pieceL s f, out2 ++ [pieceS s f])) (fun i => if i = 2 then 7 else i) (ih2 (k, pieceL s f, out2 ++ [pieceS s f]) ⟨by show (out2 ++ [pieceS s f]).length + k = N; simp; omega, by show out2 ++ [pieceS s f] ++ cutL s k (pieceL s f) = _; rw [← x2]; simp⟩ (Nat.lt_succ_self _)) (.inl rfl) rfl ⟨rfl, rfl, rfl, rfl, rfl, rfl, rfl, rfl, rfl, rfl, rfl, rfl, rfl, rfl, trivial⟩ ⟨⟨rfl, rfl, rfl⟩, Nat.le_of_ble_eq_true rfl, ⟨rfl, rfl, by show out2.length + 1 = (out2 ++ [pieceS s f]).length; simp, fun i hi => ?_⟩, Nat.le_of_ble_eq_true rfl, ⟨rfl, rfl, rfl, fun _ _ => rfl⟩, Nat.le_of_ble_eq_true rfl, ⟨rfl, rfl, rfl⟩, Nat.le_of_ble_eq_true rfl, trivial⟩ rfl rfl rfl trivial
        exact appEl_snocF _ _ _ (by have hi : i < (out2 ++ [pieceS s f]).length := hi; simp at hi; omega)
    · have q1 : ¬ (out2.length : Int) < (N : Int) := of_decide_eq_false q1
      have hk : k = 0 := by omega
      subst hk
      rw [cutL, List.append_nil] at x2
      refine p_loop (n := 60) C rfl ?_
      refine p_weaken (st1 := I (j + 1, out2)) id (ih (j + 1, out2) ⟨hjn, by show out2.length ≤ N; omega, by show placeL s N (l.drop (j + 1)) out2 = _; rw [x2]; exact hf⟩ (by show l.length - (j + 1) < l.length - j; omega)) (.inl rfl) rfl ⟨?_, rfl, rfl, rfl, rfl, rfl, rfl, rfl, rfl, rfl, rfl, rfl, trivial⟩ ⟨⟨rfl, rfl, rfl, fun _ _ => rfl⟩, Nat.le_of_ble_eq_true rfl, ⟨rfl, rfl, rfl, fun _ _ => rfl⟩, Nat.le_of_ble_eq_true rfl, ⟨rfl, rfl, rfl⟩, Nat.le_of_ble_eq_true rfl, trivial⟩ rfl rfl rfl trivial
      show some (i64 _) = some (i64 _)
      dsimp only
      rw [wrapN (by omega)]
  · have h : ¬ (j : Int) < (l.length : Int) := of_decide_eq_false h
    have hjn : j = l.length := by omega
    subst hjn
    rw [List.drop_length, placeL] at hf
    rw [← hf] at hV
    refine p_br (n := 60) C rfl (fun q1 => ?_) (fun q1 => ?_)
    · have q1 : (out.length : Int) < (N : Int) := of_decide_eq_true q1
      exact p_ret (n := 60) C Try.func30 rfl rfl rfl rfl (none, 0) trivial (by rw [hV, if_pos (by omega)]; rfl) (resL_pure _ _ _)
    · have q1 : ¬ (out.length : Int) < (N : Int) := of_decide_eq_false q1
      refine p_at (n := 60) C rfl ?_
      refine p_frz 2 rfl fun A c => ?_
      exact p_ret (n := 60) C Try.func30 rfl rfl rfl rfl (A, c) trivial (by rw [hV, if_neg (by omega)]; rfl) (resL_pure _ _ _)
end Go.Proofs.Ytneddobmlcbabaa
