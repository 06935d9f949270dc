/- A walk by symbols over the given program, a part of it: lemmas alone; what is claimed stands in the last text. No conditions of its own. -/
import Derived.Test.YtneddobmlcbabaaWaN
import Derived.Test.YtneddobmlcbabaaWaP
set_option linter.unusedVariables false
set_option linter.unusedSimpArgs false
namespace Go.Proofs.Ytneddobmlcbabaa
open Go.SE
open Go.RowKit
open Go.PS
set_option maxRecDepth 100000

theorem half_nat (m : Nat) (h : m < 18446744073709551616) : half (m : Int) = ((m / 2 : Nat) : Int) := by
  unfold half
  rw [Int.tdiv_eq_ediv_of_nonneg (by omega)]
  simp [IntKind.wrap, IntKind.bits, IntKind.signed]
  omega
theorem halves_nat (m : Nat) (h : m < 18446744073709551616) : ∀ n, halves n (m : Int) = ((m / 2 ^ n : Nat) : Int)
  | 0 => by simp [halves]
  | n + 1 => by
    have hq : m / 2 ^ n < 18446744073709551616 := Nat.lt_of_le_of_lt (Nat.div_le_self _ _) h
    rw [halves, halves_nat m h n, half_nat _ hq, Nat.div_div_eq_div_mul, Nat.pow_succ]
theorem hasV_nat (m : Nat) (h : m < 18446744073709551616) (n : Nat) : hasV (m : Int) n = decide (m / 2 ^ n % 2 = 1) := by
  rw [hasV, halves_nat m h n]
  rw [Int.tmod_eq_emod_of_nonneg (Int.natCast_nonneg _)]
  generalize m / 2 ^ n = q
  by_cases hq : q % 2 = 1
  · simp [hq]; omega
  · simp [hq]; omega
theorem ds_top : ∀ (j m : Nat), ds 1 (j + 1) m = ds 1 j m + m / 2 ^ j % 2
  | 0, m => by simp [ds]
  | j + 1, m => by
    have ih := ds_top j (m / 2 ^ 1)
    rw [ds, ih]
    rw [Nat.div_div_eq_div_mul, ← Nat.pow_add, Nat.add_comm 1 j]
    rw [ds]
    omega
theorem unitsTo_ds (m : Nat) (h : m < 18446744073709551616) : ∀ j, (unitsTo (m : Int) j).length = ds 1 j m
  | 0 => rfl
  | j + 1 => by
    rw [unitsTo, ds_top, hasV_nat m h]
    have ih := unitsTo_ds m h j
    by_cases hb : m / 2 ^ j % 2 = 1
    · simp only [hb, decide_true, if_true, List.length_append, List.length_singleton, ih]
    · simp only [hb, decide_false, Bool.false_eq_true, if_false, ih]
      omega
theorem unitsTo_pre (m : Int) (p : Nat) : ∀ q, ∃ r, unitsTo m (p + q) = unitsTo m p ++ r
  | 0 => ⟨[], by simp⟩
  | q + 1 => by
    obtain ⟨r, hr⟩ := unitsTo_pre m p q
    rw [← Nat.add_assoc, unitsTo, hr]
    split
    · exact ⟨r ++ [((p + q : Nat) : Int)], by simp⟩
    · exact ⟨r, rfl⟩
theorem bitV_pow : ∀ j, j < 64 → bitV j = ((2 ^ j : Nat) : Int)
  | 0, _ => rfl
  | j + 1, h => by
    rw [bitV, bitV_pow j (by omega)]
    have h1 : 2 ^ (j + 1) < 2 ^ 64 := Nat.pow_lt_pow_right (by decide) h
    rw [Nat.pow_succ] at h1 ⊢
    simp [IntKind.wrap, IntKind.bits, IntKind.signed]
    rw [Int.emod_eq_of_lt (by have : (0 : Int) ≤ 2 ^ j := Int.le_of_lt (Int.pow_pos (by decide)); omega)]
    have : (((2 ^ j * 2 : Nat)) : Int) < ((2 ^ 64 : Nat) : Int) := by exact_mod_cast h1
    simp at this
    omega
theorem sumB_app (a r : List Int) : ∀ j, j ≤ a.length → sumB (a ++ r) j = sumB a j
  | 0, _ => rfl
  | j + 1, h => by
    rw [sumB, sumB, sumB_app a r j (by omega)]
    simp [List.getD_eq_getElem?_getD, List.getElem?_append_left (show j < a.length by omega)]
theorem sumB_units (m : Nat) (h : m < 18446744073709551616) : ∀ p, p ≤ 64 → sumB (unitsTo (m : Int) p) (unitsTo (m : Int) p).length = ((m % 2 ^ p : Nat) : Int)
  | 0, _ => by simp [unitsTo, sumB, Nat.mod_one]
  | p + 1, hp => by
    have ih := sumB_units m h p (by omega)
    have hm : m % 2 ^ (p + 1) = m % 2 ^ p + 2 ^ p * (m / 2 ^ p % 2) := by
      rw [Nat.pow_succ, Nat.mod_mul]
    rw [unitsTo, hasV_nat m h]
    by_cases hb : m / 2 ^ p % 2 = 1
    · simp only [hb, decide_true, if_true, List.length_append, List.length_singleton]
      rw [sumB, sumB_app _ _ _ (Nat.le_refl _), ih]
      simp only [List.getD_eq_getElem?_getD, List.getElem?_append_right (Nat.le_refl _), Nat.sub_self, List.getElem?_cons_zero, Option.getD_some, Int.toNat_natCast]
      rw [bitV_pow p (by omega), hm, hb, Nat.mul_one]
      have h1 : m % 2 ^ (p + 1) < 2 ^ (p + 1) := Nat.mod_lt _ (Nat.two_pow_pos _)
      have h2 : 2 ^ (p + 1) ≤ 2 ^ 64 := Nat.pow_le_pow_right (by decide) hp
      have h3 : m % 2 ^ p + 2 ^ p < 18446744073709551616 := by
        rw [hm, hb, Nat.mul_one] at h1
        exact Nat.lt_of_lt_of_le h1 h2
      generalize m % 2 ^ p = x at h3
      generalize 2 ^ p = y at h3
      simp [IntKind.wrap, IntKind.bits, IntKind.signed]
      omega
    · have hb0 : m / 2 ^ p % 2 = 0 := by omega
      simp only [hb, decide_false, Bool.false_eq_true, if_false]
      rw [ih, hm, hb0, Nat.mul_zero, Nat.add_zero]
theorem unitsTo_step (m : Int) (p : Nat) : (unitsTo m (p + 1)).length ≤ (unitsTo m p).length + 1 := by
  rw [unitsTo]
  split
  · simp
  · omega
theorem unitsTo_at (m : Int) (g : Nat) : ∀ n, g ≤ (unitsTo m n).length → ∃ p, p ≤ n ∧ (unitsTo m p).length = g
  | 0, h => ⟨0, Nat.le_refl _, by simp [unitsTo] at h ⊢; omega⟩
  | n + 1, h => by
    by_cases hg : g ≤ (unitsTo m n).length
    · obtain ⟨p, h1, h2⟩ := unitsTo_at m g n hg
      exact ⟨p, by omega, h2⟩
    · have := unitsTo_step m n
      exact ⟨n + 1, Nat.le_refl _, by omega⟩
theorem ds_add (a : Nat) : ∀ (b x : Nat), ds 1 (a + b) x = ds 1 a x + ds 1 b (x / 2 ^ a)
  | 0, x => by simp [ds]
  | b + 1, x => by
    rw [← Nat.add_assoc, ds_top, ds_add a b x, ds_top b, Nat.div_div_eq_div_mul, ← Nat.pow_add]
    omega
theorem ds_shift (p q : Nat) : ds 1 p (2 ^ p * q) = 0 := by
  induction p generalizing q with
  | zero => rfl
  | succ p ih =>
    rw [ds, Nat.pow_succ, show 2 ^ p * 2 * q = 2 * (2 ^ p * q) by rw [Nat.mul_right_comm, Nat.mul_comm]]
    rw [show 2 * (2 ^ p * q) / 2 ^ 1 = 2 ^ p * q by omega, ih]
    omega
theorem pc_nat (m : Nat) (h : m < 18446744073709551616) : cntE (m : Int) = (ds 1 64 m : Int) := by
  rw [cntE_pc, pc]
  rw [show (BitVec.ofInt 64 (m : Int)).toNat = m by rw [BitVec.toNat_ofInt]; omega]
theorem cnt_units (m : Nat) (h : m < 18446744073709551616) : ((unitsTo (m : Int) 64).length : Int) = cntE (m : Int) := by
  rw [unitsTo_ds m h, pc_nat m h]
/-- The g lowest bits, by the reference: what is left is a number, with g bits less. -/
theorem lowR_cut (m g : Nat) (h : m < 18446744073709551616) (hg : g ≤ (unitsTo (m : Int) 64).length) : ∃ m' : Nat, IntKind.u64.wrap ((m : Int) - sumB (unitsTo (m : Int) 64) g) = (m' : Int) ∧ m' < 18446744073709551616 ∧ cntE (m' : Int) = cntE (m : Int) - g := by
  obtain ⟨p, hp, hl⟩ := unitsTo_at (m : Int) g 64 hg
  obtain ⟨r, hr⟩ := unitsTo_pre (m : Int) p (64 - p)
  rw [show p + (64 - p) = 64 by omega] at hr
  have hs : sumB (unitsTo (m : Int) 64) g = ((m % 2 ^ p : Nat) : Int) := by
    rw [hr, sumB_app _ _ _ (by omega), ← hl, sumB_units m h p hp]
  have hd : m = 2 ^ p * (m / 2 ^ p) + m % 2 ^ p := (Nat.div_add_mod m (2 ^ p)).symm
  have hm' : 2 ^ p * (m / 2 ^ p) < 18446744073709551616 := by omega
  refine ⟨2 ^ p * (m / 2 ^ p), ?_, hm', ?_⟩
  · rw [hs]
    generalize 2 ^ p * (m / 2 ^ p) = x at hd hm'
    generalize m % 2 ^ p = y at hd
    subst hd
    simp [IntKind.wrap, IntKind.bits, IntKind.signed]
    omega
  · rw [pc_nat _ hm', pc_nat m h]
    have e1 := ds_add p (64 - p) (2 ^ p * (m / 2 ^ p))
    have e2 := ds_add p (64 - p) m
    rw [show p + (64 - p) = 64 by omega] at e1 e2
    rw [ds_shift, Nat.mul_div_cancel_left _ (Nat.two_pow_pos p)] at e1
    have e3 : ds 1 p m = g := by rw [← unitsTo_ds m h, hl]
    omega
theorem eachV_up {x y : Int} (hx : 0 ≤ x) (hx2 : x ≤ 1048576) (hy : 0 ≤ y) (h : y ≤ x) (h0 : ¬ y = 0) : eachV (x - y) y = eachV x y - 1 := by
  rw [eachV_p hx hx2 (by omega), eachV_p (by omega) (by omega) (by omega)]
  rw [Int.sub_ediv_of_dvd x (Int.dvd_refl y), Int.ediv_self h0]
/-- a mask that a machine word holds -/
def inM (f : FreeD) : Prop := 0 ≤ f.m ∧ f.m < 18446744073709551616
theorem min_step {E1 E1' E2 E2' : Int} {k : Nat} (hk : k + 1 ≤ 16) (n1 : 0 ≤ E1') (n2 : 0 ≤ E2') (h1 : (E1 = 16 ∧ E1' = 16) ∨ E1' = E1 - 1) (h2 : (E2 = 16 ∧ E2' = 16) ∨ E2' = E2 - 1) :
    1 + min k (minI (minI 16 E1') E2').toNat = min (k + 1) (minI (minI 16 E1) E2).toNat := by
  unfold minI
  repeat' split <;> omega
theorem fitsRk_eq {s : ShapeD} (hk : s.chk = 0) : ∀ (k : Nat) (f : FreeD), inC f → inM f → k ≤ 16 → fitsRk s k f = min k (fitsF s f).toNat
  | 0, f, _, _, _ => by simp [fitsRk]
  | k + 1, f, hc, hm, hk16 => by
    have ch := chk0 hk
    obtain ⟨m, hmm⟩ : ∃ m : Nat, f.m = (m : Int) := ⟨f.m.toNat, by have := hm.1; omega⟩
    have hlt : m < 18446744073709551616 := by have := hm.2; omega
    have hcu := cnt_units m hlt
    have hb := fitsF_bd hk hc
    have bE := cntE_bd f.m
    have hq := fitsF_eq hk hc
    rw [fitsRk]
    split
    · rename_i hE
      have : fitsF s f = 0 := by
        unfold pieceRE at hE
        split at hE
        · rename_i hbad
          have q1 := eachV_nn (x := cntE f.m) (y := s.g) bE.1 (by omega) ch.1
          have q2 := eachV_nn (x := f.c) (y := s.c) hc.1 hc.2 ch.2.2.1
          rcases hbad with hbad | hbad | hbad
          · have : ¬ s.g ≤ cntE f.m := fun hle => by
              apply hbad
              rw [hmm] at hle ⊢
              rw [lowRE, if_neg (by omega), if_neg (by rw [hcu]; omega)]
            have q3 : ¬ 1 ≤ eachV (cntE f.m) s.g := fun q => this (eachV_pos bE.1 (by omega) ch.1 q)
            rw [hq]; unfold minI; repeat' split <;> omega
          · have := hc.1; omega
          · have q3 : ¬ 1 ≤ eachV f.c s.c := fun q => by have := eachV_pos hc.1 hc.2 ch.2.2.1 q; omega
            rw [hq]; unfold minI; repeat' split <;> omega
        · exact absurd rfl hE
      rw [this]; simp
    · rename_i hE
      have hE : pieceRE s f = 0 := Decidable.not_not.1 hE
      have hgood : ¬ (lowRE f.m s.g ≠ 0 ∨ f.c < 0 ∨ f.c < s.c) := fun hbad => by rw [pieceRE, if_pos hbad] at hE; cases hE
      have g0 : lowRE f.m s.g = 0 := Decidable.not_not.1 fun q => hgood (.inl q)
      have g2 : s.c ≤ f.c := Int.not_lt.1 fun q => hgood (.inr (.inr q))
      have g1 : s.g ≤ ((unitsTo f.m 64).length : Int) := by
        unfold lowRE at g0
        split at g0
        · cases g0
        · split at g0
          · cases g0
          · omega
      obtain ⟨G, hG⟩ : ∃ G : Nat, s.g = (G : Int) := ⟨s.g.toNat, by omega⟩
      obtain ⟨m', e1, e2, e3⟩ := lowR_cut m G hlt (by rw [hmm, hG] at g1; omega)
      have hL : pieceRL s f = ⟨f.nd, f.dm, (m' : Int), f.c - s.c⟩ := by
        rw [pieceRL, if_pos hE, lowRV, if_pos g0, hmm, hG, Int.toNat_natCast, e1, w64' (by have := hc.1; omega) (by have := hc.2; omega)]
      have hc' : inC (pieceRL s f) := by rw [hL]; exact ⟨by show 0 ≤ f.c - s.c; omega, by show f.c - s.c ≤ _; have := hc.2; omega⟩
      have hm' : inM (pieceRL s f) := by rw [hL]; exact ⟨by show (0 : Int) ≤ (m' : Int); omega, by show (m' : Int) < _; omega⟩
      have ih := fitsRk_eq hk k (pieceRL s f) hc' hm' (by omega)
      rw [ih]
      have hb' := fitsF_bd hk hc'
      have hq' := fitsF_eq hk hc'
      have hgc : s.g ≤ cntE f.m := by rw [hmm, ← hcu, ← hmm]; exact g1
      have hcm : cntE (m' : Int) = cntE f.m - s.g := by rw [e3, hmm, hG]
      rw [hL] at hq' hb'
      dsimp only at hq' hb'
      rw [hcm] at hq'
      have n1 := eachV_nn (x := cntE f.m - s.g) (y := s.g) (by omega) (by omega) ch.1
      have n2 := eachV_nn (x := f.c - s.c) (y := s.c) (by omega) (by have := hc.2; omega) ch.2.2.1
      have k1 : (eachV (cntE f.m) s.g = 16 ∧ eachV (cntE f.m - s.g) s.g = 16) ∨ eachV (cntE f.m - s.g) s.g = eachV (cntE f.m) s.g - 1 := by
        by_cases z : s.g = 0
        · rw [z, eachV_0, eachV_0]; exact .inl ⟨rfl, rfl⟩
        · exact .inr (eachV_up bE.1 (by omega) ch.1 hgc z)
      have k2 : (eachV f.c s.c = 16 ∧ eachV (f.c - s.c) s.c = 16) ∨ eachV (f.c - s.c) s.c = eachV f.c s.c - 1 := by
        by_cases z : s.c = 0
        · rw [z, eachV_0, eachV_0]; exact .inl ⟨rfl, rfl⟩
        · exact .inr (eachV_up hc.1 hc.2 ch.2.2.1 g2 z)
      rw [hL, hq', hq]
      exact min_step hk16 n1 n2 k1 k2
end Go.Proofs.Ytneddobmlcbabaa
namespace Go.Proofs.Ytneddobmlcbabaa
open Go.SE
open Go.RowKit
open Go.PS
set_option maxRecDepth 100000

def sp (f : FreeD) : Int × Int := (f.nd, f.dm)
def disj (a b : Int) : Prop := BitVec.ofInt 64 a &&& BitVec.ofInt 64 b = 0#64
def joinF (f s : FreeD) : FreeD := ⟨f.nd, f.dm, bw .or .u64 f.m s.m, f.c + s.c⟩
def Adds (o : List FreeD) (s : FreeD) (o' : List FreeD) : Prop :=
  ∃ k, k < o.length ∧ sp (o.getD k default) = sp s ∧ 0 ≤ s.c ∧ disj (o.getD k default).m s.m ∧ (o.getD k default).c + s.c ≤ 1048576 ∧ o' = o.set k (joinF (o.getD k default) s)
inductive AddsL : List FreeD → List FreeD → List FreeD → Prop where
  | nil (o : List FreeD) : AddsL o [] o
  | cons {o o1 o2 : List FreeD} {s : FreeD} {S : List FreeD} (h : Adds o s o1) (k : AddsL o1 S o2) : AddsL o (s :: S) o2
theorem getD_set {l : List FreeD} {k : Nat} {x : FreeD} (hk : k < l.length) (i : Nat) : (l.set k x).getD i default = if i = k then x else l.getD i default := by
  simp only [List.getD_eq_getElem?_getD, List.getElem?_set]
  by_cases h : k = i
  · subst h; simp [hk]
  · simp [h, Ne.symm h]
theorem B_join (a b : Int) : BitVec.ofInt 64 (bw .or .u64 a b) = BitVec.ofInt 64 a ||| BitVec.ofInt 64 b := by rw [bw_or, ofInt_toNat]
theorem joinF_comm {f s t : FreeD} (h1 : disj f.m s.m) (h2 : disj (joinF f s).m t.m) : disj f.m t.m ∧ disj (joinF f t).m s.m ∧ joinF (joinF f s) t = joinF (joinF f t) s := by
  unfold disj joinF at *
  dsimp only at *
  rw [B_join] at h2 ⊢
  have q : ∀ i (hi : i < 64), ((BitVec.ofInt 64 f.m)[i] && (BitVec.ofInt 64 t.m)[i]) = false ∧ ((BitVec.ofInt 64 s.m)[i] && (BitVec.ofInt 64 t.m)[i]) = false ∧ ((BitVec.ofInt 64 f.m)[i] && (BitVec.ofInt 64 s.m)[i]) = false := fun i hi => by
    have e1 := congrArg (fun x : BitVec 64 => x[i]) h1
    have e2 := congrArg (fun x : BitVec 64 => x[i]) h2
    simp only [BitVec.getElem_and, BitVec.getElem_or, BitVec.getElem_zero] at e1 e2
    revert e1 e2
    generalize (BitVec.ofInt 64 f.m)[i] = a; generalize (BitVec.ofInt 64 s.m)[i] = b; generalize (BitVec.ofInt 64 t.m)[i] = c
    cases a <;> cases b <;> cases c <;> simp
  refine ⟨?_, ?_, ?_⟩
  · ext i hi
    simp only [BitVec.getElem_and, BitVec.getElem_zero, (q i hi).1]
  · ext i hi
    simp only [BitVec.getElem_and, BitVec.getElem_or, BitVec.getElem_zero]
    have := q i hi
    revert this
    generalize (BitVec.ofInt 64 f.m)[i] = a; generalize (BitVec.ofInt 64 s.m)[i] = b; generalize (BitVec.ofInt 64 t.m)[i] = c
    cases a <;> cases b <;> cases c <;> simp
  · rw [bw_or, bw_or (bw .or .u64 f.m t.m), B_join, B_join]
    rw [show BitVec.ofInt 64 f.m ||| BitVec.ofInt 64 s.m ||| BitVec.ofInt 64 t.m = BitVec.ofInt 64 f.m ||| BitVec.ofInt 64 t.m ||| BitVec.ofInt 64 s.m by
      ext i hi
      simp only [BitVec.getElem_or]
      generalize (BitVec.ofInt 64 f.m)[i] = a; generalize (BitVec.ofInt 64 s.m)[i] = b; generalize (BitVec.ofInt 64 t.m)[i] = c
      cases a <;> cases b <;> cases c <;> rfl]
    rw [show f.c + s.c + t.c = f.c + t.c + s.c by omega]
theorem Adds.swap {o a b : List FreeD} {s t : FreeD} (h1 : Adds o s a) (h2 : Adds a t b) : ∃ a', Adds o t a' ∧ Adds a' s b := by
  obtain ⟨k, p1, p2, p3, p4, p5, rfl⟩ := h1
  obtain ⟨k', q1, q2, q3, q4, q5, rfl⟩ := h2
  rw [List.length_set] at q1
  rw [getD_set p1] at q2 q4 q5
  by_cases hk : k' = k
  · subst hk
    rw [if_pos rfl] at q2 q4 q5
    obtain ⟨j1, j2, j3⟩ := joinF_comm p4 q4
    refine ⟨o.set k' (joinF (o.getD k' default) t), ⟨k', p1, q2, q3, j1, by have : (joinF (o.getD k' default) s).c = (o.getD k' default).c + s.c := rfl; omega, rfl⟩, k', by rw [List.length_set]; exact p1, ?_, p3, ?_, ?_, ?_⟩
    · rw [getD_set p1, if_pos rfl]; exact p2
    · rw [getD_set p1, if_pos rfl]; exact j2
    · rw [getD_set p1, if_pos rfl]
      have e1 : (joinF (o.getD k' default) s).c = (o.getD k' default).c + s.c := rfl
      have e2 : (joinF (o.getD k' default) t).c = (o.getD k' default).c + t.c := rfl
      omega
    · rw [getD_set p1, if_pos rfl, getD_set p1, if_pos rfl, List.set_set, List.set_set, j3]
  · rw [if_neg hk] at q2 q4 q5
    refine ⟨o.set k' (joinF (o.getD k' default) t), ⟨k', q1, q2, q3, q4, q5, rfl⟩, k, by rw [List.length_set]; exact p1, ?_, p3, ?_, ?_, ?_⟩
    · rw [getD_set q1, if_neg (Ne.symm hk)]; exact p2
    · rw [getD_set q1, if_neg (Ne.symm hk)]; exact p4
    · rw [getD_set q1, if_neg (Ne.symm hk)]; exact p5
    · rw [getD_set q1, if_neg (Ne.symm hk), getD_set p1, if_neg hk, List.set_comm _ _ (Ne.symm hk)]
theorem AddsL.perm {S S' : List FreeD} (hp : S.Perm S') : ∀ {o o' : List FreeD}, AddsL o S o' → AddsL o S' o' := by
  induction hp with
  | nil => intro o o' h; exact h
  | cons x _ ih => intro o o' h; cases h with | cons h k => exact .cons h (ih k)
  | swap x y l =>
    intro o o' h
    cases h with
    | cons h k =>
      cases k with
      | cons h2 k =>
        obtain ⟨a', g1, g2⟩ := h.swap h2
        exact .cons g1 (.cons g2 k)
  | trans _ _ ih1 ih2 => intro o o' h; exact ih2 (ih1 h)
theorem AddsL.app {S T : List FreeD} : ∀ {o o' : List FreeD}, AddsL o (S ++ T) o' → ∃ a, AddsL o S a ∧ AddsL a T o' := by
  induction S with
  | nil => intro o o' h; exact ⟨o, .nil o, h⟩
  | cons s S ih =>
    intro o o' h
    cases h with
    | cons h k =>
      obtain ⟨a, h1, h2⟩ := ih k
      exact ⟨a, .cons h h1, h2⟩
theorem AddsL.snoc {S T : List FreeD} {o a o' : List FreeD} (h : AddsL o S a) (k : AddsL a T o') : AddsL o (S ++ T) o' := by
  induction h with
  | nil => exact k
  | cons h _ ih => exact .cons h (ih k)
/-- the same spots, in the same order -/
def SameS (o w : List FreeD) : Prop := o.length = w.length ∧ ∀ i, sp (o.getD i default) = sp (w.getD i default)
def Dist (v : List FreeD) : Prop := ∀ i k, i < v.length → k < v.length → sp (v.getD i default) = sp (v.getD k default) → i = k
def Good (v : List FreeD) : Prop := ∀ f ∈ v, inC f ∧ inM f
theorem Good.at {v : List FreeD} (h : Good v) {k : Nat} (hk : k < v.length) : inC (v.getD k default) ∧ inM (v.getD k default) := h _ (by simp [List.getD_eq_getElem?_getD, hk])
theorem SameS.set {o w : List FreeD} (h : SameS o w) {k : Nat} {x : FreeD} (hk : k < o.length) (hx : sp x = sp (o.getD k default)) : SameS (o.set k x) w := by
  refine ⟨by rw [List.length_set]; exact h.1, fun i => ?_⟩
  rw [getD_set hk]
  split
  · rename_i e; subst e; rw [hx]; exact h.2 _
  · exact h.2 i
theorem inM_bw (a b : Int) : 0 ≤ bw .or .u64 a b ∧ bw .or .u64 a b < 18446744073709551616 := by
  rw [bw_or]
  have := (BitVec.ofInt 64 a ||| BitVec.ofInt 64 b).isLt
  omega
theorem Adds.keep {o o' : List FreeD} {s : FreeD} (h : Adds o s o') : SameS o' o ∧ (Good o → Good o') := by
  obtain ⟨k, p1, p2, p3, p4, p5, rfl⟩ := h
  refine ⟨SameS.set ⟨rfl, fun _ => rfl⟩ p1 rfl, fun hg f hf => ?_⟩
  rcases List.mem_or_eq_of_mem_set hf with hf | rfl
  · exact hg f hf
  · have := hg.at p1
    exact ⟨⟨by show 0 ≤ (o.getD k default).c + s.c; have := this.1.1; omega, p5⟩, inM_bw _ _⟩
theorem SameS.trans {a b c : List FreeD} (h : SameS a b) (k : SameS b c) : SameS a c := ⟨h.1.trans k.1, fun i => (h.2 i).trans (k.2 i)⟩
theorem AddsL.keep {o o' S : List FreeD} (h : AddsL o S o') : SameS o' o ∧ (Good o → Good o') := by
  induction h with
  | nil => exact ⟨⟨rfl, fun _ => rfl⟩, id⟩
  | cons h _ ih => exact ⟨ih.1.trans h.keep.1, fun g => ih.2 (h.keep.2 g)⟩
theorem SameS.dist {o w : List FreeD} (h : SameS o w) (d : Dist w) : Dist o := fun i k hi hk e => d i k (by rw [← h.1]; exact hi) (by rw [← h.1]; exact hk) (by rw [← h.2, ← h.2]; exact e)
theorem lastV_some {v : List FreeD} {x : FreeD} : ∀ {j k : Nat}, lastV v j [x.nd, x.dm] = some k → k < j ∧ sp (v.getD k default) = sp x
  | 0, k, h => by simp [lastV] at h
  | j + 1, k, h => by
    simp only [lastV] at h
    split at h
    · rename_i e
      simp at h
      subst h
      simp at e
      exact ⟨by omega, by simp [sp, e]⟩
    · obtain ⟨h1, h2⟩ := lastV_some h
      exact ⟨by omega, h2⟩
theorem lastV_of {v : List FreeD} {x : FreeD} (d : Dist v) {k : Nat} (hk : k < v.length) (e : sp (v.getD k default) = sp x) : ∀ j, k < j → j ≤ v.length → lastV v j [x.nd, x.dm] = some k
  | 0, h, _ => by omega
  | j + 1, h, hj => by
    rw [lastV]
    split
    · rename_i e2
      simp at e2
      have : sp (v.getD j default) = sp x := by simp [sp, e2]
      have := d j k (by omega) hk (this.trans e.symm)
      rw [this]
    · rename_i e2
      have : j ≠ k := by
        rintro rfl
        apply e2
        simp [sp] at e
        simp [e]
      exact lastV_of d hk e j (by omega) (by omega)
theorem and_zero (a b : Int) : bw .and .u64 a b = 0 ↔ disj b a := by
  rw [bw_and, disj]
  constructor
  · intro h
    apply BitVec.eq_of_toNat_eq
    rw [BitVec.and_comm]
    have : (BitVec.ofInt 64 a &&& BitVec.ofInt 64 b).toNat = 0 := by omega
    rw [this]; rfl
  · intro h
    rw [BitVec.and_comm, h]; rfl
/-- pack.More's step is Adds. -/
theorem turnMore {w o o' : List FreeD} {s : FreeD} (hs : SameS o w) (g : Good o) (h : turnStep moreT w o s = .ok o') : Adds o s o' := by
  unfold turnStep at h
  split at h
  · cases h
  · rename_i h0
    split at h
    · cases h
    · rename_i k hk
      obtain ⟨k1, k2⟩ := lastV_some hk
      have hkl : k < o.length := by rw [hs.1]; exact k1
      have hg := g.at hkl
      unfold moreT at h
      split at h
      · cases h
      · rename_i f hf
        split at hf
        · cases hf
        · rename_i hd
          split at hf
          · cases hf
          · rename_i hc
            cases hf
            cases h
            have hw : IntKind.i64.wrap (1048576 - (o.getD k default).c) = 1048576 - (o.getD k default).c := w64' (by have := hg.1.2; omega) (by have := hg.1.1; omega)
            rw [hw] at hc
            have hc1 := hg.1.1
            have hc2 := hg.1.2
            refine ⟨k, hkl, (hs.2 k).trans k2, by omega, (and_zero _ _).1 (Decidable.not_not.1 hd), by omega, ?_⟩
            rw [w64' (by omega) (by omega)]
            rfl
theorem addsTurn {w o o' : List FreeD} {s : FreeD} (hs : SameS o w) (d : Dist w) (g : Good o) (h : Adds o s o') : turnStep moreT w o s = .ok o' := by
  obtain ⟨k, p1, p2, p3, p4, p5, rfl⟩ := h
  have hg := g.at p1
  have hc1 := hg.1.1
  have hc2 := hg.1.2
  have hl : lastV w w.length [s.nd, s.dm] = some k := lastV_of d (by rw [← hs.1]; exact p1) ((hs.2 k).symm.trans p2) _ (by rw [← hs.1]; exact p1) (Nat.le_refl _)
  unfold turnStep
  rw [if_neg (by omega), hl]
  simp only
  unfold moreT
  rw [if_neg (by rw [(and_zero _ _).2 p4]; simp), if_neg (by rw [w64' (by omega) (by omega)]; omega), w64' (by omega) (by omega)]
  rfl
theorem turnedMore {w : List FreeD} : ∀ {S o o' : List FreeD}, SameS o w → Good o → S.foldlM (turnStep moreT w) o = .ok o' → AddsL o S o'
  | [], o, o', _, _, h => by cases h; exact .nil _
  | s :: S, o, o', hs, g, h => by
    simp only [List.foldlM_cons] at h
    cases h1 : turnStep moreT w o s with
    | error e => rw [h1] at h; cases h
    | ok o1 =>
      rw [h1] at h
      have a := turnMore hs g h1
      exact .cons a (turnedMore (a.keep.1.trans hs) (a.keep.2 g) h)
theorem addsTurned {w : List FreeD} (d : Dist w) : ∀ {S o o' : List FreeD}, SameS o w → Good o → AddsL o S o' → S.foldlM (turnStep moreT w) o = .ok o'
  | [], o, o', _, _, h => by cases h; rfl
  | s :: S, o, o', hs, g, h => by
    cases h with
    | cons a k =>
      simp only [List.foldlM_cons]
      rw [addsTurn hs d g a]
      exact addsTurned d (a.keep.1.trans hs) (a.keep.2 g) k
end Go.Proofs.Ytneddobmlcbabaa
namespace Go.Proofs.Ytneddobmlcbabaa
open Go.SE
open Go.RowKit
open Go.PS
set_option maxRecDepth 100000

theorem rightP_dist {v : List FreeD} (h : RightP v) : Dist v := by
  have key : ∀ i k, i < k → k < v.length → ¬ sp (v.getD i default) = sp (v.getD k default) := fun i k hik hk e => by
    have h3 := (h k hk).2.2
    unfold findV at h3
    cases hf : (v.take k).findIdx? (spotIs (v.getD k default).nd (v.getD k default).dm) with
    | some j => rw [hf] at h3; simp at h3; omega
    | none =>
      rw [List.findIdx?_eq_none_iff] at hf
      have hm : v.getD i default ∈ v.take k := by
        rw [List.mem_take_iff_getElem]
        exact ⟨i, by omega, by simp [List.getD_eq_getElem?_getD, show i < v.length by omega]⟩
      have := hf _ hm
      simp [sp] at e
      simp [spotIs, e] at this
  intro i k hi hk e
  rcases Nat.lt_trichotomy i k with h1 | h1 | h1
  · exact absurd e (key i k h1 hk)
  · exact h1
  · exact absurd e.symm (key k i h1 hi)
theorem testB (m : Nat) (h : m < 18446744073709551616) (i : Nat) (hi : i < 64) : (BitVec.ofInt 64 (m : Int))[i] = decide (m / 2 ^ i % 2 = 1) := by
  rw [← BitVec.getLsbD_eq_getElem, BitVec.getLsbD, show (BitVec.ofInt 64 (m : Int)).toNat = m by rw [BitVec.toNat_ofInt]; omega]
  exact Nat.testBit_eq_decide_div_mod_eq
theorem hasV_B (m : Int) (h : 0 ≤ m ∧ m < 18446744073709551616) (i : Nat) (hi : i < 64) : hasV m i = (BitVec.ofInt 64 m)[i] := by
  obtain ⟨k, rfl⟩ : ∃ k : Nat, m = (k : Int) := ⟨m.toNat, by omega⟩
  rw [testB k (by omega) i hi, hasV_nat k (by omega)]
theorem unitsTo_has (m : Int) : ∀ (j i : Nat), i < j → hasV m i = true → (i : Int) ∈ unitsTo m j
  | 0, i, h, _ => by omega
  | j + 1, i, h, hb => by
    rw [unitsTo]
    by_cases hij : i = j
    · subst hij; rw [if_pos hb]; simp
    · have := unitsTo_has m j i (by omega) hb
      split
      · simp [this]
      · exact this
theorem has_unitsTo (m : Int) : ∀ (j : Nat) (x : Int), x ∈ unitsTo m j → hasV m x.toNat = true
  | 0, x, h => by simp [unitsTo] at h
  | j + 1, x, h => by
    rw [unitsTo] at h
    split at h
    · rename_i hb
      rcases List.mem_append.1 h with h | h
      · exact has_unitsTo m j x h
      · simp at h; subst h; simpa using hb
    · exact has_unitsTo m j x h
theorem masks_disj {a b : Int} (ha : 0 ≤ a ∧ a < 18446744073709551616) (hb : 0 ≤ b ∧ b < 18446744073709551616) : masksV a b = 0 ↔ disj b a := by
  unfold masksV disj
  rw [List.countP_eq_zero]
  constructor
  · intro h
    ext i hi
    simp only [BitVec.getElem_and, BitVec.getElem_zero]
    cases h1 : (BitVec.ofInt 64 a)[i] with
    | false => simp
    | true =>
      have := h _ (unitsTo_has a 64 i hi (by rw [hasV_B a ha i hi]; exact h1))
      rw [Int.toNat_natCast, hasV_B b hb i hi] at this
      simp at this
      simp [this]
  · intro h x hx
    obtain ⟨h0, h1⟩ := unitsTo_mem a 64 x hx
    have h2 := has_unitsTo a 64 x hx
    have h3 : x.toNat < 64 := by omega
    rw [hasV_B a ha _ h3] at h2
    have e := congrArg (fun y : BitVec 64 => y[x.toNat]) h
    simp only [BitVec.getElem_and, BitVec.getElem_zero, h2, Bool.and_true] at e
    rw [hasV_B b hb _ h3, e]
    simp
theorem add_join {a b : Int} (ha : 0 ≤ a ∧ a < 18446744073709551616) (hb : 0 ≤ b ∧ b < 18446744073709551616) (h : disj a b) : IntKind.u64.wrap (a + b) = bw .or .u64 a b := by
  rw [bw_or]
  have e : BitVec.ofInt 64 a ||| BitVec.ofInt 64 b = BitVec.ofInt 64 a + BitVec.ofInt 64 b := (BitVec.add_eq_or_of_and_eq_zero _ _ h).symm
  rw [e, BitVec.toNat_add, BitVec.toNat_ofInt, BitVec.toNat_ofInt]
  simp [IntKind.wrap, IntKind.bits, IntKind.signed]
  omega
theorem findV_spec {l : List FreeD} {x : FreeD} (h : ¬ findV l x.nd x.dm < 0) : ∃ k : Nat, findV l x.nd x.dm = (k : Int) ∧ k < l.length ∧ sp (l.getD k default) = sp x := by
  unfold findV at h ⊢
  cases hf : l.findIdx? (spotIs x.nd x.dm) with
  | none => rw [hf] at h; simp at h
  | some k =>
    rw [List.findIdx?_eq_some_iff_getElem] at hf
    obtain ⟨h1, h2, _⟩ := hf
    refine ⟨k, rfl, h1, ?_⟩
    simp [spotIs] at h2
    simp [sp, List.getD_eq_getElem?_getD, h1, h2]
theorem findV_dist {l : List FreeD} (d : Dist l) {x : FreeD} {k : Nat} (hk : k < l.length) (e : sp (l.getD k default) = sp x) : findV l x.nd x.dm = (k : Int) := by
  refine findV_at hk (fun i hi => ?_) ?_
  · cases hq : spotIs x.nd x.dm (l.getD i default) with
    | false => rfl
    | true =>
      simp only [spotIs, Bool.and_eq_true, beq_iff_eq] at hq
      have : sp (l.getD i default) = sp x := by simp only [sp, hq]
      have := d i k (by omega) hk (this.trans e.symm)
      omega
  · simp [sp] at e
    simp [spotIs, e]
theorem moreAdds {o o' : List FreeD} {s : FreeD} (g : Good o) (hm : inM s) (h : moreStep o s = .ok o') : Adds o s o' := by
  unfold moreStep at h
  split at h
  · cases h
  · rename_i h0
    split at h
    · cases h
    · rename_i h1
      obtain ⟨k, k1, k2, k3⟩ := findV_spec h1
      rw [k1, Int.toNat_natCast] at h
      have hg := g.at k2
      have hc1 := hg.1.1
      have hc2 := hg.1.2
      split at h
      · cases h
      · rename_i h2
        split at h
        · cases h
        · rename_i h3
          rw [w64' (by omega) (by omega)] at h3
          have hz : masksV s.m (o.getD k default).m = 0 := by omega
          have hd := (masks_disj hm hg.2).1 hz
          cases h
          refine ⟨k, k2, k3, by omega, hd, by omega, ?_⟩
          rw [add_join hg.2 hm hd, w64' (by omega) (by omega)]
          rfl
theorem addsMore {o o' : List FreeD} {s : FreeD} (g : Good o) (d : Dist o) (hm : inM s) (h : Adds o s o') : moreStep o s = .ok o' := by
  obtain ⟨k, p1, p2, p3, p4, p5, rfl⟩ := h
  have hg := g.at p1
  have hc1 := hg.1.1
  have hc2 := hg.1.2
  unfold moreStep
  rw [if_neg (by omega), findV_dist d p1 p2, if_neg (by omega), Int.toNat_natCast, (masks_disj hm hg.2).2 p4, if_neg (by omega), if_neg (by rw [w64' (by omega) (by omega)]; omega)]
  rw [add_join hg.2 hm p4, w64' (by omega) (by omega)]
  rfl
theorem moreVAdds : ∀ {S o o' : List FreeD}, Good o → (∀ s ∈ S, inM s) → moreV o S = .ok o' → AddsL o S o'
  | [], o, o', _, _, h => by cases h; exact .nil _
  | s :: S, o, o', g, hm, h => by
    simp only [moreV, List.foldlM_cons] at h
    cases h1 : moreStep o s with
    | error e => rw [h1] at h; cases h
    | ok o1 =>
      rw [h1] at h
      have a := moreAdds g (hm s (by simp)) h1
      exact .cons a (moreVAdds (a.keep.2 g) (fun t ht => hm t (by simp [ht])) h)
theorem addsMoreV : ∀ {S o o' : List FreeD}, Good o → Dist o → (∀ s ∈ S, inM s) → AddsL o S o' → moreV o S = .ok o'
  | [], o, o', _, _, _, h => by cases h; rfl
  | s :: S, o, o', g, d, hm, h => by
    cases h with
    | cons a k =>
      simp only [moreV, List.foldlM_cons]
      rw [addsMore g d (hm s (by simp)) a]
      exact addsMoreV (a.keep.2 g) (a.keep.1.dist d) (fun t ht => hm t (by simp [ht])) k
/-- Taken off, it can be put back. -/
theorem turnLess {w o o' : List FreeD} {s : FreeD} (hs : SameS o w) (g : Good o) (h : turnStep lessT w o s = .ok o') : Adds o' s o ∧ Good o' ∧ SameS o' o := by
  unfold turnStep at h
  split at h
  · cases h
  · rename_i h0
    split at h
    · cases h
    · rename_i k hk
      obtain ⟨k1, k2⟩ := lastV_some hk
      have hkl : k < o.length := by rw [hs.1]; exact k1
      have hg := g.at hkl
      have hc1 := hg.1.1
      have hc2 := hg.1.2
      unfold lessT at h
      split at h
      · cases h
      · rename_i f hf
        split at hf
        · cases hf
        · rename_i hd
          split at hf
          · cases hf
          · rename_i hc
            cases hf
            cases h
            have hd := Decidable.not_not.1 hd
            rw [bw_andNot] at hd
            have hsub : BitVec.ofInt 64 s.m &&& ~~~ (BitVec.ofInt 64 (o.getD k default).m) = 0#64 := by
              apply BitVec.eq_of_toNat_eq
              have : (BitVec.ofInt 64 s.m &&& ~~~ (BitVec.ofInt 64 (o.getD k default).m)).toNat = 0 := by omega
              rw [this]; rfl
            have hbit : ∀ i (hi : i < 64), (BitVec.ofInt 64 s.m)[i] = true → (BitVec.ofInt 64 (o.getD k default).m)[i] = true := fun i hi h => by
              have e := congrArg (fun y : BitVec 64 => y[i]) hsub
              simp only [BitVec.getElem_and, BitVec.getElem_not, BitVec.getElem_zero, h, Bool.true_and, Bool.not_eq_false'] at e
              exact e
            rw [w64' (by omega) (by omega)]
            generalize hF : (⟨(o.getD k default).nd, (o.getD k default).dm, bw .andNot .u64 (o.getD k default).m s.m, (o.getD k default).c - s.c⟩ : FreeD) = F
            have hF' : ({ o.getD k default with m := bw .andNot .u64 (o.getD k default).m s.m, c := (o.getD k default).c - s.c } : FreeD) = F := hF
            have hspF : sp F = sp (o.getD k default) := by rw [← hF]; rfl
            refine ⟨⟨k, by rw [List.length_set]; exact hkl, ?_, by omega, ?_, ?_, ?_⟩, fun f hf => ?_, SameS.set ⟨rfl, fun _ => rfl⟩ hkl hspF⟩
            · rw [getD_set hkl, if_pos rfl, hspF]; exact (hs.2 k).trans k2
            · rw [getD_set hkl, if_pos rfl, ← hF]
              unfold disj
              rw [bw_andNot, ofInt_toNat]
              ext i hi
              simp only [BitVec.getElem_and, BitVec.getElem_not, BitVec.getElem_zero]
              generalize (BitVec.ofInt 64 (o.getD k default).m)[i] = x; generalize (BitVec.ofInt 64 s.m)[i] = y
              cases x <;> cases y <;> rfl
            · rw [getD_set hkl, if_pos rfl, ← hF]
              show (o.getD k default).c - s.c + s.c ≤ 1048576
              omega
            · rw [getD_set hkl, if_pos rfl, List.set_set]
              have e : joinF F s = o.getD k default := by
                rw [← hF]
                unfold joinF
                dsimp only
                have e1 : bw .or .u64 (bw .andNot .u64 (o.getD k default).m s.m) s.m = (o.getD k default).m := by
                  rw [bw_or, bw_andNot, ofInt_toNat]
                  rw [show (BitVec.ofInt 64 (o.getD k default).m &&& ~~~ (BitVec.ofInt 64 s.m) ||| BitVec.ofInt 64 s.m) = BitVec.ofInt 64 (o.getD k default).m by
                    ext i hi
                    simp only [BitVec.getElem_and, BitVec.getElem_or, BitVec.getElem_not]
                    have := hbit i hi
                    revert this
                    generalize (BitVec.ofInt 64 (o.getD k default).m)[i] = x; generalize (BitVec.ofInt 64 s.m)[i] = y
                    cases x <;> cases y <;> simp]
                  rw [BitVec.toNat_ofInt]
                  have := hg.2.1
                  have := hg.2.2
                  omega
                rw [e1, show (o.getD k default).c - s.c + s.c = (o.getD k default).c by omega]
              rw [e]
              apply List.ext_getElem?
              intro i
              rw [List.getElem?_set]
              split
              · rename_i e2; subst e2; simp [List.getD_eq_getElem?_getD, hkl]
              · rfl
            · rcases List.mem_or_eq_of_mem_set hf with hf | rfl
              · exact g f hf
              · rw [← hF]
                refine ⟨⟨by show 0 ≤ (o.getD k default).c - s.c; omega, by show (o.getD k default).c - s.c ≤ _; omega⟩, ?_⟩
                show 0 ≤ bw .andNot .u64 _ _ ∧ bw .andNot .u64 _ _ < 18446744073709551616
                rw [bw_andNot]
                have := (BitVec.ofInt 64 (o.getD k default).m &&& ~~~ (BitVec.ofInt 64 s.m)).isLt
                omega
theorem turnedLess {w : List FreeD} : ∀ {S o o' : List FreeD}, SameS o w → Good o → S.foldlM (turnStep lessT w) o = .ok o' → AddsL o' S.reverse o ∧ Good o' ∧ SameS o' o
  | [], o, o', hs, g, h => by cases h; exact ⟨.nil _, g, ⟨rfl, fun _ => rfl⟩⟩
  | s :: S, o, o', hs, g, h => by
    simp only [List.foldlM_cons] at h
    cases h1 : turnStep lessT w o s with
    | error e => rw [h1] at h; cases h
    | ok o1 =>
      rw [h1] at h
      obtain ⟨a1, a2, a3⟩ := turnLess hs g h1
      obtain ⟨b1, b2, b3⟩ := turnedLess (a3.trans hs) a2 h
      rw [List.reverse_cons]
      exact ⟨b1.snoc (.cons a1 (.nil _)), b2, b3.trans a3⟩
/-- What the slots were taken of is what has them again. -/
theorem lessBack {v v' S : List FreeD} (g : Good v) (h : turnedV lessT v S = .ok v') : AddsL v' S v ∧ Good v' ∧ SameS v' v := by
  obtain ⟨h1, h2, h3⟩ := turnedLess ⟨rfl, fun _ => rfl⟩ g h
  exact ⟨h1.perm (List.reverse_perm S), h2, h3⟩
end Go.Proofs.Ytneddobmlcbabaa
namespace Go.Proofs.Ytneddobmlcbabaa
open Go.SE
open Go.RowKit
open Go.PS
set_option maxRecDepth 100000

theorem ds_or : ∀ (j a b : Nat), ds 1 j a ≤ ds 1 j (a ||| b)
  | 0, _, _ => Nat.le_refl _
  | j + 1, a, b => by
    have ih := ds_or j (a / 2) (b / 2)
    rw [ds, ds]
    simp only [Nat.pow_one]
    rw [Nat.or_div_two]
    have : a % 2 ≤ (a ||| b) % 2 := by
      rcases Nat.mod_two_eq_zero_or_one a with h | h
      · omega
      · rw [h, Nat.or_mod_two_eq_one.2 (.inl h)]; omega
    omega
theorem cntE_or (a b : Int) : cntE a ≤ cntE (bw .or .u64 a b) := by
  rw [cntE_pc, cntE_pc, B_join]
  unfold pc
  rw [BitVec.toNat_or]
  have := ds_or 64 (BitVec.ofInt 64 a).toNat (BitVec.ofInt 64 b).toNat
  omega
theorem eachV_mono {x y n : Int} (hx : 0 ≤ x) (hxy : x ≤ y) (hy : y ≤ 1048576) (hn : 0 ≤ n) : eachV x n ≤ eachV y n := by
  by_cases h0 : n = 0
  · subst h0; rw [eachV_0, eachV_0]; exact Int.le_refl _
  · rw [eachV_p hx (by omega) (by omega), eachV_p (by omega) hy (by omega)]
    exact Int.ediv_le_ediv (by omega) hxy
theorem fitsF_join {s : ShapeD} {f t : FreeD} (hk : s.chk = 0) (hc : inC f) (hc' : inC (joinF f t)) (h0 : 0 ≤ t.c) : fitsF s f ≤ fitsF s (joinF f t) := by
  have ch := chk0 hk
  rw [fitsF_eq hk hc, fitsF_eq hk hc']
  have b := cntE_bd f.m
  have b' := cntE_bd (joinF f t).m
  have e1 : cntE f.m ≤ cntE (joinF f t).m := cntE_or _ _
  have e2 : f.c ≤ (joinF f t).c := by show f.c ≤ f.c + t.c; omega
  have k1 := eachV_mono b.1 e1 (by omega) ch.1
  have k2 := eachV_mono hc.1 e2 hc'.2 ch.2.2.1
  unfold minI
  repeat' split <;> omega
theorem sum_set (s : ShapeD) (F : FreeD) : ∀ (o : List FreeD) (k : Nat), k < o.length → (fitsF s (o.getD k default)).toNat ≤ (fitsF s F).toNat → sumF s o ≤ sumF s (o.set k F)
  | [], k, h, _ => by simp at h
  | x :: o, 0, _, h => by
    simp [sumF] at h ⊢
    omega
  | x :: o, k + 1, h, h2 => by
    have ih := sum_set s F o k (by simpa using h) (by simpa using h2)
    simp [sumF] at ih ⊢
    omega
theorem Adds.room {s : ShapeD} (hk : s.chk = 0) {o o' : List FreeD} {t : FreeD} (g : Good o) (h : Adds o t o') : sumF s o ≤ sumF s o' := by
  have g' := h.keep.2 g
  obtain ⟨k, p1, p2, p3, p4, p5, rfl⟩ := h
  refine sum_set s _ o k p1 ?_
  have hc := (g.at p1).1
  have hc' : inC (joinF (o.getD k default) t) := ⟨by show 0 ≤ (o.getD k default).c + t.c; have := hc.1; omega, p5⟩
  have := fitsF_join hk hc hc' p3
  have := fitsF_bd hk hc
  omega
theorem AddsL.room {s : ShapeD} (hk : s.chk = 0) {o o' S : List FreeD} (h : AddsL o S o') : Good o → sumF s o ≤ sumF s o' := by
  induction h with
  | nil => intro _; exact Nat.le_refl _
  | cons h _ ih => intro g; exact Nat.le_trans (h.room hk g) (ih (h.keep.2 g))
theorem fitsR_eq {s : ShapeD} {f : FreeD} (hc : inC f) (hm : inM f) : (fitsR s f : Int) = fitsF s f := by
  unfold fitsR
  by_cases hk : s.chk = 0
  · rw [if_pos hk, fitsRk_eq hk 16 f hc hm (Nat.le_refl _)]
    have := fitsF_bd hk hc
    omega
  · rw [if_neg hk, fitsF, fitsV, if_pos (.inl hk)]; rfl
theorem roomR_eq (s : ShapeD) : ∀ (v : List FreeD) (z : Int), Good v → v.foldl (fun n f => IntKind.i64.wrap (n + (fitsR s f : Int))) z = v.foldl (fun n f => IntKind.i64.wrap (n + fitsF s f)) z
  | [], _, _ => rfl
  | f :: r, z, g => by
    rw [List.foldl_cons, List.foldl_cons, fitsR_eq (g f (by simp)).1 (g f (by simp)).2, roomR_eq s r _ (fun x hx => g x (by simp [hx]))]
theorem roomV_eq {s : ShapeD} (hk : s.chk = 0) {v : List FreeD} (g : Good v) (hl : v.length ≤ 100) : roomV s v = (sumF s v : Int) := by
  have := roomV_sum hk v 0 (fun f hf => (g f hf).1) (Int.le_refl _) (by omega)
  rw [roomV, this]; omega
theorem unitsRk_eq {s : ShapeD} (hk : s.chk = 0) : ∀ n : Nat, n ≤ 16 → unitsRk s n = ⟨(n : Int) * s.g, (n : Int) * s.c⟩
  | 0, _ => by simp [unitsRk]
  | n + 1, h => by
    have ch := chk0 hk
    have h1 : (n : Int) * s.g ≤ 16 * 16 := Int.mul_le_mul (by omega) (by omega) (by omega) (by decide)
    have h2 : (n : Int) * s.c ≤ 16 * 1024 := Int.mul_le_mul (by omega) (by omega) (by omega) (by decide)
    have h3 : 0 ≤ (n : Int) * s.g := Int.mul_nonneg (by omega) ch.1
    have h4 : 0 ≤ (n : Int) * s.c := Int.mul_nonneg (by omega) ch.2.2.1
    rw [unitsRk, unitsRk_eq hk n (by omega)]
    dsimp only
    rw [w64' (by omega) (by omega), w64' (by omega) (by omega)]
    rw [show ((n + 1 : Nat) : Int) = (n : Int) + 1 by omega, Int.add_mul, Int.add_mul, Int.one_mul, Int.one_mul]
end Go.Proofs.Ytneddobmlcbabaa
namespace Go.Proofs.Ytneddobmlcbabaa
open Go.SE
open Go.RowKit
open Go.PS
set_option maxRecDepth 100000

theorem unitsV_eq {s : ShapeD} {n : Int} (hk : s.chk = 0) (h0 : 0 ≤ n) (h1 : n ≤ 16) : unitsV s n = unitsRk s n.toNat := by
  have ch := chk0 hk
  rw [unitsV, if_pos ⟨hk, h0, h1⟩, unitsRk_eq hk n.toNat (by omega)]
  obtain ⟨k, rfl⟩ : ∃ k : Nat, n = (k : Int) := ⟨n.toNat, by omega⟩
  have h2 : (k : Int) * s.g ≤ 16 * 16 := Int.mul_le_mul (by omega) (by omega) (by omega) (by decide)
  have h3 : (k : Int) * s.c ≤ 16 * 1024 := Int.mul_le_mul (by omega) (by omega) (by omega) (by decide)
  have h4 : 0 ≤ (k : Int) * s.g := Int.mul_nonneg (by omega) ch.1
  have h5 : 0 ≤ (k : Int) * s.c := Int.mul_nonneg (by omega) ch.2.2.1
  rw [Int.toNat_natCast, Int.mul_comm s.g, Int.mul_comm s.c, w64' (by omega) (by omega), w64' (by omega) (by omega)]
theorem fits12_eq {v : List FreeD} (g : Good v) (u : UnitsD) (w : WantD) : fits12V v u w = fitsW v u w := by
  unfold fits12V fitsW
  rw [show rightV w = rightW w from rfl]
  cases hr : rightW w with
  | false => rfl
  | true =>
    simp [rightW] at hr
    rw [withinV, unitsV_eq hr.1 (by omega) hr.2.2]
    rw [show roomR w.sh v = roomV w.sh v from roomR_eq w.sh v 0 g]
theorem fitsW_mono {v v' : List FreeD} {u u' : UnitsD} {w : WantD} (g : Good v) (g' : Good v') (hl : v.length ≤ 100) (hl' : v'.length ≤ 100) (hs : ∀ s : ShapeD, s.chk = 0 → sumF s v ≤ sumF s v') (hg : u.g ≤ u'.g) (hc : u.c ≤ u'.c) (h : fitsW v u w = true) : fitsW v' u' w = true := by
  unfold fitsW at *
  simp only [Bool.and_eq_true, decide_eq_true_eq] at *
  obtain ⟨h1, h2, h3⟩ := h
  have hk : w.sh.chk = 0 := by simp [rightW] at h1; exact h1.1
  refine ⟨h1, ?_, ?_⟩
  · unfold withinV at *
    simp only [Bool.and_eq_true, decide_eq_true_eq] at *
    omega
  · rw [roomV_eq hk g hl] at h3
    rw [roomV_eq hk g' hl']
    have := hs w.sh hk
    omega
/-! units -/
def ww (x : Int) : Int := IntKind.i64.wrap x
theorem ww_ww (x y : Int) : ww (ww x + y) = ww (x + y) := by
  unfold ww
  simp [IntKind.wrap, IntKind.bits, IntKind.signed]
  omega
theorem ww_ww' (x y : Int) : ww (ww x - y) = ww (x - y) := by rw [Int.sub_eq_add_neg, ww_ww, ← Int.sub_eq_add_neg]
theorem ww_idem (x : Int) : ww (ww x) = ww x := by have := ww_ww x 0; simpa using this
theorem ww_r (x y : Int) : ww (x + ww y) = ww (x + y) := by rw [Int.add_comm, ww_ww, Int.add_comm]
theorem ww_id {x : Int} (h : -9223372036854775808 ≤ x) (h2 : x < 9223372036854775808) : ww x = x := w64' h h2
def GS (S : List FreeD) : Int := (S.map fun s => cntE s.m).sum
def CS (S : List FreeD) : Int := (S.map fun s => s.c).sum
theorem take_fold : ∀ (S : List FreeD) (u : UnitsD), ww u.g = u.g → ww u.c = u.c → (S.foldl takeU u).g = ww (u.g - GS S) ∧ (S.foldl takeU u).c = ww (u.c - CS S)
  | [], u, h1, h2 => by simp [GS, CS, h1, h2]
  | s :: S, u, h1, h2 => by
    have ih := take_fold S (takeU u s) (ww_idem _) (ww_idem _)
    rw [List.foldl_cons, ih.1, ih.2]
    show ww (ww (u.g - cntE s.m) - GS S) = _ ∧ ww (ww (u.c - s.c) - CS S) = _
    rw [ww_ww', ww_ww']
    have e1 : GS (s :: S) = cntE s.m + GS S := by simp [GS]
    have e2 : CS (s :: S) = s.c + CS S := by simp [CS]
    rw [e1, e2]
    exact ⟨by congr 1; omega, by congr 1; omega⟩
theorem give_fold (q wq : Int) : ∀ (S : List FreeD) (u : UnitsD), ww u.g = u.g → ww u.c = u.c → (S.foldl (giveU q wq) u).g = ww (u.g + if q = wq then GS S else 0) ∧ (S.foldl (giveU q wq) u).c = ww (u.c + if q = wq then CS S else 0)
  | [], u, h1, h2 => by simp [GS, CS, h1, h2]
  | s :: S, u, h1, h2 => by
    by_cases hq : q = wq
    · have hu : giveU q wq u s = ⟨ww (u.g + cntE s.m), ww (u.c + s.c)⟩ := by rw [giveU, if_pos hq]; rfl
      have ih := give_fold q wq S (giveU q wq u s) (by rw [hu]; exact ww_idem _) (by rw [hu]; exact ww_idem _)
      rw [List.foldl_cons, ih.1, ih.2, hu, if_pos hq, if_pos hq, if_pos hq, if_pos hq]
      dsimp only
      rw [ww_ww, ww_ww]
      have e1 : GS (s :: S) = cntE s.m + GS S := by simp [GS]
      have e2 : CS (s :: S) = s.c + CS S := by simp [CS]
      rw [e1, e2]
      exact ⟨by congr 1; omega, by congr 1; omega⟩
    · have hu : giveU q wq u s = u := by rw [giveU, if_neg hq]
      have ih := give_fold q wq S u h1 h2
      rw [List.foldl_cons, hu, ih.1, ih.2]
      simp only [if_neg hq]
      exact ⟨trivial, trivial⟩
/-- what holds give to a queue -/
def GQ (w : WantD) (L : List HoldD) : Int := (L.map fun h => if h.queue = w.queue then GS h.slots.l else 0).sum
def CQ (w : WantD) (L : List HoldD) : Int := (L.map fun h => if h.queue = w.queue then CS h.slots.l else 0).sum
theorem endU_eq (w : WantD) (u : UnitsD) (h : HoldD) (h1 : ww u.g = u.g) (h2 : ww u.c = u.c) : (endU w u h).g = ww (u.g + if h.queue = w.queue then GS h.slots.l else 0) ∧ (endU w u h).c = ww (u.c + if h.queue = w.queue then CS h.slots.l else 0) := give_fold h.queue w.queue h.slots.l u h1 h2
theorem units8_fold : ∀ (S : List FreeD) (u : UnitsD), (∀ s ∈ S, inM s) → ww u.g = u.g → ww u.c = u.c → (S.foldl units8 u).g = ww (u.g + GS S) ∧ (S.foldl units8 u).c = ww (u.c + CS S)
  | [], u, _, h1, h2 => by simp [GS, CS, h1, h2]
  | s :: S, u, hm, h1, h2 => by
    have hs := hm s (by simp)
    obtain ⟨m, hmm⟩ : ∃ m : Nat, s.m = (m : Int) := ⟨s.m.toNat, by have := hs.1; omega⟩
    have hc : ((unitsTo s.m 64).length : Int) = cntE s.m := by rw [hmm]; exact cnt_units m (by have := hs.2; omega)
    have ih := units8_fold S (units8 u s) (fun t ht => hm t (by simp [ht])) (ww_idem _) (ww_idem _)
    rw [List.foldl_cons, ih.1, ih.2]
    show ww (ww (u.g + ((unitsTo s.m 64).length : Int)) + GS S) = _ ∧ ww (ww (u.c + s.c) + CS S) = _
    rw [ww_ww, ww_ww, hc]
    have e1 : GS (s :: S) = cntE s.m + GS S := by simp [GS]
    have e2 : CS (s :: S) = s.c + CS S := by simp [CS]
    rw [e1, e2]
    exact ⟨by congr 1; omega, by congr 1; omega⟩
theorem at_fold (t : Int) (w : WantD) : ∀ (L : List HoldD) (u : UnitsD), (∀ h ∈ L, ∀ s ∈ h.slots.l, inM s) → ww u.g = u.g → ww u.c = u.c →
    (L.foldl (atU t w) u).g = ww (u.g + GQ w (L.filter fun h => decide (h.until_ ≤ t))) ∧ (L.foldl (atU t w) u).c = ww (u.c + CQ w (L.filter fun h => decide (h.until_ ≤ t)))
  | [], u, _, h1, h2 => by simp [GQ, CQ, h1, h2]
  | h :: L, u, hm, h1, h2 => by
    have hU := units8_fold h.slots.l ⟨0, 0⟩ (hm h (by simp)) rfl rfl
    have hm' : ∀ h' ∈ L, ∀ s ∈ h'.slots.l, inM s := fun h' hh => hm h' (by simp [hh])
    rw [List.foldl_cons, List.filter_cons]
    by_cases ht : h.until_ ≤ t
    · rw [if_pos (by simpa using ht)]
      by_cases hq : h.queue = w.queue
      · have hu : atU t w u h = ⟨ww (u.g + GS h.slots.l), ww (u.c + CS h.slots.l)⟩ := by
          rw [atU, if_pos ⟨ht, hq⟩]
          show (⟨ww (u.g + (unitsOf h.slots.l).g), ww (u.c + (unitsOf h.slots.l).c)⟩ : UnitsD) = _
          unfold unitsOf
          rw [hU.1, hU.2]
          dsimp only
          rw [Int.zero_add, Int.zero_add, ww_r, ww_r]
        have ih := at_fold t w L (atU t w u h) hm' (by rw [hu]; exact ww_idem _) (by rw [hu]; exact ww_idem _)
        rw [ih.1, ih.2, hu]
        dsimp only
        rw [ww_ww, ww_ww]
        have e1 : ∀ R, GQ w (h :: R) = GS h.slots.l + GQ w R := fun R => by simp [GQ, hq]
        have e2 : ∀ R, CQ w (h :: R) = CS h.slots.l + CQ w R := fun R => by simp [CQ, hq]
        rw [e1, e2]
        exact ⟨by congr 1; omega, by congr 1; omega⟩
      · have hu : atU t w u h = u := by rw [atU, if_neg (fun x => hq x.2)]
        have ih := at_fold t w L u hm' h1 h2
        rw [hu, ih.1, ih.2]
        have e1 : ∀ R, GQ w (h :: R) = GQ w R := fun R => by simp [GQ, hq]
        have e2 : ∀ R, CQ w (h :: R) = CQ w R := fun R => by simp [CQ, hq]
        rw [e1, e2]
        exact ⟨rfl, rfl⟩
    · rw [if_neg (by simpa using ht)]
      have hu : atU t w u h = u := by rw [atU, if_neg (fun x => ht x.1)]
      rw [hu]
      exact at_fold t w L u hm' h1 h2
theorem sum_perm {L L' : List Int} (h : L.Perm L') : L.sum = L'.sum := by
  induction h with
  | nil => rfl
  | cons x _ ih => simp [ih]
  | swap x y l => simp; omega
  | trans _ _ ih1 ih2 => exact ih1.trans ih2
theorem GQ_perm (w : WantD) {L L' : List HoldD} (h : L.Perm L') : GQ w L = GQ w L' ∧ CQ w L = CQ w L' := ⟨sum_perm (h.map _), sum_perm (h.map _)⟩
theorem GS_bd : ∀ (S : List FreeD), 0 ≤ GS S ∧ GS S ≤ 127 * (S.length : Int)
  | [] => by simp [GS]
  | s :: S => by
    have := GS_bd S
    have := cntE_bd s.m
    have e : GS (s :: S) = cntE s.m + GS S := by simp [GS]
    rw [e, List.length_cons]
    omega
theorem CS_bd : ∀ (S : List FreeD), (∀ s ∈ S, 0 ≤ s.c ∧ s.c ≤ 1048576) → 0 ≤ CS S ∧ CS S ≤ 1048576 * (S.length : Int)
  | [], _ => by simp [CS]
  | s :: S, h => by
    have := CS_bd S (fun t ht => h t (by simp [ht]))
    have := h s (by simp)
    have e : CS (s :: S) = s.c + CS S := by simp [CS]
    rw [e, List.length_cons]
    omega
theorem AddsL.cbd {o o' S : List FreeD} (h : AddsL o S o') : Good o → ∀ s ∈ S, 0 ≤ s.c ∧ s.c ≤ 1048576 := by
  induction h with
  | nil => intro _ s hs; simp at hs
  | cons h _ ih =>
    intro g s hs
    rcases List.mem_cons.1 hs with rfl | hs
    · obtain ⟨k, p1, p2, p3, p4, p5, rfl⟩ := h
      have := (g.at p1).1.1
      exact ⟨p3, by omega⟩
    · exact ih (h.keep.2 g) s hs
theorem GQ_bd (w : WantD) : ∀ (L : List HoldD), (∀ h ∈ L, h.slots.l.length ≤ 20) → (∀ h ∈ L, ∀ s ∈ h.slots.l, 0 ≤ s.c ∧ s.c ≤ 1048576) → (0 ≤ GQ w L ∧ GQ w L ≤ 2540 * (L.length : Int)) ∧ 0 ≤ CQ w L ∧ CQ w L ≤ 20971520 * (L.length : Int)
  | [], _, _ => by simp [GQ, CQ]
  | h :: L, h1, h2 => by
    have ih := GQ_bd w L (fun x hx => h1 x (by simp [hx])) (fun x hx => h2 x (by simp [hx]))
    have a1 := GS_bd h.slots.l
    have a2 := CS_bd h.slots.l (h2 h (by simp))
    have a3 := h1 h (by simp)
    have e1 : GQ w (h :: L) = (if h.queue = w.queue then GS h.slots.l else 0) + GQ w L := by simp [GQ]
    have e2 : CQ w (h :: L) = (if h.queue = w.queue then CS h.slots.l else 0) + CQ w L := by simp [CQ]
    rw [e1, e2, List.length_cons]
    split <;> omega
end Go.Proofs.Ytneddobmlcbabaa
namespace Go.Proofs.Ytneddobmlcbabaa
open Go.SE
open Go.RowKit
open Go.PS
set_option maxRecDepth 100000

theorem Adds.det {o a b : List FreeD} {s : FreeD} (d : Dist o) (h1 : Adds o s a) (h2 : Adds o s b) : a = b := by
  obtain ⟨k, p1, p2, _, _, _, rfl⟩ := h1
  obtain ⟨k', q1, q2, _, _, _, rfl⟩ := h2
  have := d k k' p1 q1 (p2.trans q2.symm)
  subst this
  rfl
theorem AddsL.det {S : List FreeD} : ∀ {o a b : List FreeD}, Dist o → AddsL o S a → AddsL o S b → a = b := by
  induction S with
  | nil => intro o a b _ h1 h2; cases h1; cases h2; rfl
  | cons s S ih =>
    intro o a b d h1 h2
    cases h1 with
    | cons h1 k1 =>
      cases h2 with
      | cons h2 k2 =>
        have := h1.det d h2
        subst this
        exact ih (h1.keep.1.dist d) k1 k2
theorem allV_app (A B : List HoldD) : allV (A ++ B) = allV A ++ allV B := by simp [allV]
theorem allV_perm {A B : List HoldD} (h : A.Perm B) : (allV A).Perm (allV B) := h.flatMap_right _
theorem GQ_snoc (w : WantD) (A : List HoldD) (h : HoldD) : GQ w (A ++ [h]) = GQ w A + (if h.queue = w.queue then GS h.slots.l else 0) ∧ CQ w (A ++ [h]) = CQ w A + (if h.queue = w.queue then CS h.slots.l else 0) := by simp [GQ, CQ]
/-- where the program stands, behind k ends -/
structure Stand (v0 : List FreeD) (u0 : UnitsD) (w : WantD) (A : List HoldD) (v : List FreeD) (u : UnitsD) : Prop where
  view : AddsL v0 (allV A) v
  g : u.g = ww (u0.g + GQ w A)
  c : u.c = ww (u0.c + CQ w A)
theorem Stand.step {v0 v z : List FreeD} {u0 u : UnitsD} {w : WantD} {L : List HoldD} {k : Nat} (g0 : Good v0) (d0 : Dist v0) (hz : AddsL v0 (allV L) z) (hk : k < L.length) (h : Stand v0 u0 w (L.take k) v u) :
    Stand v0 u0 w (L.take (k + 1)) (endV v (L.getD k default)) (endU w u (L.getD k default)) := by
  have hT : L.take (k + 1) = L.take k ++ [L.getD k default] := by
    rw [List.take_add_one]
    simp [List.getD_eq_getElem?_getD, hk]
  have hL : L = L.take k ++ ([L.getD k default] ++ L.drop (k + 1)) := by
    rw [← List.append_assoc, ← hT, List.take_append_drop]
  have hz2 := hz
  rw [hL, allV_app, allV_app] at hz2
  obtain ⟨a, h1, h2⟩ := hz2.app
  have := h.view.det d0 h1
  subst this
  obtain ⟨b, h3, h4⟩ := h2.app
  have h3' : AddsL v ((L.getD k default).slots.l) b := by simpa [allV] using h3
  have kv := h.view.keep
  have hE : turnedV moreT v (L.getD k default).slots.l = .ok b := addsTurned (kv.1.dist d0) ⟨rfl, fun _ => rfl⟩ (kv.2 g0) h3'
  have hV : endV v (L.getD k default) = b := by unfold endV; rw [hE]; rfl
  have hU := endU_eq w u (L.getD k default) (by rw [h.g]; exact ww_idem _) (by rw [h.c]; exact ww_idem _)
  refine ⟨?_, ?_, ?_⟩
  · rw [hT, allV_app, hV]
    exact h.view.snoc h3
  · rw [hU.1, h.g, ww_ww, hT, (GQ_snoc w _ _).1, Int.add_assoc]
  · rw [hU.2, h.c, ww_ww, hT, (GQ_snoc w _ _).2, Int.add_assoc]
theorem earlFrom_spec {v0 z : List FreeD} {u0 : UnitsD} {w : WantD} {L : List HoldD} (g0 : Good v0) (d0 : Dist v0) (hz : AddsL v0 (allV L) z) :
    ∀ (f k : Nat) (t : Int) (v : List FreeD) (u : UnitsD), k ≤ L.length → (∀ i, i < k → (L.getD i default).until_ ≤ t) → Stand v0 u0 w (L.take k) v u →
    earlFrom w L f k t v u = 1073741825 ∨ ∃ k' v' u', t ≤ earlFrom w L f k t v u ∧ k' ≤ L.length ∧ (∀ i, i < k' → (L.getD i default).until_ ≤ earlFrom w L f k t v u) ∧ (k' = L.length ∨ (L.getD k' default).until_ > earlFrom w L f k t v u) ∧
      Stand v0 u0 w (L.take k') v' u' ∧ fitsW v' u' w = true
  | 0, _, _, _, _, _, _, _ => .inl rfl
  | f + 1, k, t, v, u, hk, ht, hs => by
    rw [earlFrom]
    by_cases h1 : k = L.length ∨ (L.getD k default).until_ > t
    · rw [if_pos h1]
      by_cases h2 : fitsW v u w = true
      · rw [if_pos h2]
        exact .inr ⟨k, v, u, Int.le_refl _, hk, ht, h1, hs, h2⟩
      · rw [if_neg h2]
        by_cases h3 : k = L.length ∨ (L.getD k default).until_ ≥ 1073741825
        · rw [if_pos h3]; exact .inl rfl
        · rw [if_neg h3]
          have hkl : k < L.length := by
            have : k ≠ L.length := fun e => h3 (.inl e)
            omega
          have hgt : (L.getD k default).until_ > t := h1.resolve_left (by omega)
          rcases earlFrom_spec g0 d0 hz f (k + 1) (L.getD k default).until_ _ _ hkl (fun i hi => by
            by_cases e : i = k
            · subst e; exact Int.le_refl _
            · have := ht i (by omega); omega) (hs.step g0 d0 hz hkl) with h | ⟨k', v', u', q1, q⟩
          · exact .inl h
          · exact .inr ⟨k', v', u', by omega, q⟩
    · rw [if_neg h1]
      have hkl : k < L.length := by
        have : k ≠ L.length := fun e => h1 (.inl e)
        omega
      have hle : (L.getD k default).until_ ≤ t := Int.not_lt.1 fun h => h1 (.inr h)
      exact earlFrom_spec g0 d0 hz f (k + 1) t _ _ hkl (fun i hi => by
        by_cases e : i = k
        · subst e; exact hle
        · exact ht i (by omega)) (hs.step g0 d0 hz hkl)
theorem filter_take {L : List HoldD} (hs : Srt (fun h : HoldD => h.until_) L) {k : Nat} {r : Int} (hk : k ≤ L.length) (h1 : ∀ i, i < k → (L.getD i default).until_ ≤ r) (h2 : k = L.length ∨ (L.getD k default).until_ > r) : L.filter (fun h => decide (h.until_ ≤ r)) = L.take k := by
  conv => lhs; rw [← List.take_append_drop k L]
  rw [List.filter_append]
  have e1 : (L.take k).filter (fun h => decide (h.until_ ≤ r)) = L.take k := by
    rw [List.filter_eq_self]
    intro x hx
    obtain ⟨i, hi, rfl⟩ := List.getElem_of_mem hx
    have hi' : i < k := by simp at hi; omega
    have := h1 i hi'
    simp [List.getD_eq_getElem?_getD, show i < L.length by omega] at this
    simp [this]
  have e2 : (L.drop k).filter (fun h => decide (h.until_ ≤ r)) = [] := by
    rw [List.filter_eq_nil_iff]
    intro x hx
    obtain ⟨i, hi, rfl⟩ := List.getElem_of_mem hx
    have hi' : k + i < L.length := by simp at hi; omega
    have h3 : (L.getD k default).until_ > r := h2.resolve_left (by omega)
    have := srt_le hs (i := k) (j := k + i) (by omega) hi'
    simp [List.getD_eq_getElem?_getD, hi', show k < L.length by omega] at this h3
    simp
    omega
  rw [e1, e2, List.append_nil]
/-! the reference's answer -/
theorem atV_congr {t1 t2 : Int} {es : List HoldD} (h : ∀ x ∈ es, x.until_ ≤ t1 ↔ x.until_ ≤ t2) (v : List FreeD) (u : UnitsD) (w : WantD) : atV t1 v u es w = atV t2 v u es w := by
  have e1 : allT es t1 = allT es t2 := by
    unfold allT
    congr 1
    apply List.filter_congr
    intro x hx
    rw [decide_eq_decide]
    exact h x hx
  have e2 : ∀ (l : List HoldD) (u : UnitsD), (∀ x ∈ l, x.until_ ≤ t1 ↔ x.until_ ≤ t2) → l.foldl (atU t1 w) u = l.foldl (atU t2 w) u := by
    intro l
    induction l with
    | nil => intro u _; rfl
    | cons x l ih =>
      intro u hl
      rw [List.foldl_cons, List.foldl_cons]
      have : atU t1 w u x = atU t2 w u x := by
        unfold atU
        have := hl x (by simp)
        simp only [this]
      rw [this]
      exact ih _ fun y hy => hl y (by simp [hy])
  unfold atV
  rw [e1, e2 es u h]
theorem best_le (now : Int) (v : List FreeD) (u : UnitsD) (es : List HoldD) (w : WantD) : ∀ (l : List HoldD) (b : Int), l.foldl (bestStep now v u es w) b ≤ b
  | [], _ => Int.le_refl _
  | x :: l, b => by
    rw [List.foldl_cons]
    have h1 := best_le now v u es w l (bestStep now v u es w b x)
    have h2 : bestStep now v u es w b x ≤ b := by
      unfold bestStep
      split <;> omega
    omega
theorem best_mem (now : Int) (v : List FreeD) (u : UnitsD) (es : List HoldD) (w : WantD) {x : HoldD} (hx : x.until_ > now) (ha : atV x.until_ v u es w = true) : ∀ (l : List HoldD) (b : Int), x ∈ l → l.foldl (bestStep now v u es w) b ≤ x.until_
  | [], _, h => by simp at h
  | y :: l, b, h => by
    rw [List.foldl_cons]
    rcases List.mem_cons.1 h with rfl | h
    · have h1 := best_le now v u es w l (bestStep now v u es w b x)
      have h2 : bestStep now v u es w b x ≤ x.until_ := by
        unfold bestStep
        split
        · omega
        · rename_i hn
          have : ¬ x.until_ < b := fun hb => hn ⟨hx, hb, ha⟩
          omega
      omega
    · exact best_mem now v u es w hx ha l _ h
theorem max_end (now r : Int) : ∀ (l : List HoldD), (∀ x ∈ l, x.until_ ≤ r → x.until_ ≤ now) ∨ ∃ x ∈ l, now < x.until_ ∧ x.until_ ≤ r ∧ ∀ y ∈ l, y.until_ ≤ r → y.until_ ≤ x.until_
  | [] => .inl (by simp)
  | a :: l => by
    rcases max_end now r l with h | ⟨x, hx, h1, h2, h3⟩
    · by_cases ha : a.until_ ≤ r ∧ now < a.until_
      · refine .inr ⟨a, by simp, ha.2, ha.1, fun y hy hyr => ?_⟩
        rcases List.mem_cons.1 hy with rfl | hy
        · exact Int.le_refl _
        · have := h y hy hyr; omega
      · refine .inl fun y hy hyr => ?_
        rcases List.mem_cons.1 hy with rfl | hy
        · exact Int.not_lt.1 fun q => ha ⟨hyr, q⟩
        · exact h y hy hyr
    · by_cases ha : a.until_ ≤ r ∧ x.until_ < a.until_
      · refine .inr ⟨a, by simp, by omega, ha.1, fun y hy hyr => ?_⟩
        rcases List.mem_cons.1 hy with rfl | hy
        · exact Int.le_refl _
        · have := h3 y hy hyr; omega
      · refine .inr ⟨x, by simp [hx], h1, h2, fun y hy hyr => ?_⟩
        rcases List.mem_cons.1 hy with rfl | hy
        · exact Int.not_lt.1 fun q => ha ⟨hyr, q⟩
        · exact h3 y hy hyr
/-- Where it fits at r, the reference's answer is r at the latest. -/
theorem earlR_le {now : Int} {v : List FreeD} {u : UnitsD} {es : List HoldD} {w : WantD} (h0 : 0 ≤ now) (h1 : now ≤ 1073741824) (hw : rightV w = true) (hm : er (moreV v (allV es)) = 0) :
    (earlR now v u es w).2 = 0 ∧ (earlR now v u es w).1 ≤ 1073741825 ∧ ∀ r, now ≤ r → atV r v u es w = true → (earlR now v u es w).1 ≤ r := by
  unfold earlR
  rw [if_neg (by rintro (h | h | h); omega; omega; rw [hw] at h; cases h), if_neg (by simp [hm])]
  by_cases ha : atV now v u es w = true
  · rw [if_pos ha]
    exact ⟨rfl, by show now ≤ _; omega, fun r hr _ => hr⟩
  · rw [if_neg ha]
    refine ⟨rfl, best_le _ _ _ _ _ _ _, fun r hr hat => ?_⟩
    rcases max_end now r es with h | ⟨x, hx, q1, q2, q3⟩
    · exfalso
      apply ha
      rw [atV_congr (t1 := now) (t2 := r) (fun y hy => ⟨fun hy1 => by omega, fun hy1 => h y hy hy1⟩)]
      exact hat
    · have : atV x.until_ v u es w = true := by
        rw [atV_congr (t1 := x.until_) (t2 := r) (fun y hy => ⟨fun hy1 => by omega, fun hy1 => q3 y hy hy1⟩)]
        exact hat
      have := best_mem now v u es w q1 this es 1073741825 hx
      show es.foldl _ _ ≤ r
      omega
end Go.Proofs.Ytneddobmlcbabaa
namespace Go.Proofs.Ytneddobmlcbabaa
open Go.SE
open Go.RowKit
open Go.PS
set_option maxRecDepth 100000

theorem turnStep_err {tn : FreeD → FreeD → Except Int FreeD} (hn : ∀ f s e, tn f s = .error e → e ≠ 0) {v o : List FreeD} {s : FreeD} {e : Int} (h : turnStep tn v o s = .error e) : e ≠ 0 := by
  unfold turnStep at h
  split at h
  · injection h with h; omega
  · split at h
    · injection h with h; omega
    · split at h
      · rename_i e' he
        injection h with h
        subst h
        exact hn _ _ _ he
      · cases h
theorem turnedV_err {tn : FreeD → FreeD → Except Int FreeD} (hn : ∀ f s e, tn f s = .error e → e ≠ 0) {v : List FreeD} : ∀ {S o : List FreeD} {e : Int}, S.foldlM (turnStep tn v) o = .error e → e ≠ 0
  | [], o, e, h => by cases h
  | s :: S, o, e, h => by
    simp only [List.foldlM_cons] at h
    cases h1 : turnStep tn v o s with
    | error e' =>
      rw [h1] at h
      injection h with h
      subst h
      exact turnStep_err hn h1
    | ok o1 => rw [h1] at h; exact turnedV_err hn h
theorem turned_er {tn : FreeD → FreeD → Except Int FreeD} (hn : ∀ f s e, tn f s = .error e → e ≠ 0) {v S : List FreeD} (h : er (turnedV tn v S) = 0) : ∃ l, turnedV tn v S = .ok l := by
  cases hr : turnedV tn v S with
  | ok l => exact ⟨l, rfl⟩
  | error e => rw [hr] at h; exact absurd h (turnedV_err hn hr)
structure FairP (v : List FreeD) (es : List HoldD) (u : UnitsD) : Prop where
  good : Good v
  dist : Dist v
  view : v.length ≤ 70
  ends : es.length ≤ 20
  each : ∀ h : HoldD, h ∈ es → h.slots.l.length ≤ 20
  masks : ∀ h : HoldD, h ∈ es → ∀ s ∈ h.slots.l, inM s
  more : ∃ l, moreV v (allV es) = .ok l
  units : unitsP u
theorem allV_mem {A : List HoldD} {s : FreeD} : s ∈ allV A ↔ ∃ h ∈ A, s ∈ h.slots.l := by simp [allV]
/-- What is safe beside a head is early without it, too. -/
theorem safe_early {now prom : Int} {v : List FreeD} {u : UnitsD} {ends : List HoldD} {w : WantD} {q t : Int} {sl : List FreeD} (F : FairP v ends u) (hsl : sl.length ≤ 20) (h : (sfV now v u ends w prom q t sl).1 = true) :
    (earlR now v u ends w).2 = 0 ∧ ((earlR now v u ends w).1 ≤ prom ∨ (earlR now v u ends w).1 ≤ now) := by
  unfold sfV at h
  simp only [Bool.and_eq_true, decide_eq_true_eq] at h
  obtain ⟨ha2, ha1⟩ := h
  suffices hs : (earlR now v u ends w).2 = 0 ∧ (earlR now v u ends w).1 ≤ (afterV now v u ends w (holdOf q t sl)).1 by
    refine ⟨hs.1, ?_⟩
    have := hs.2
    omega
  clear ha1
  have hsl0 : (holdOf q t sl).slots.l = sl := rfl
  unfold afterV at ha2 ⊢
  rw [hsl0] at ha2 ⊢
  have e0 : er (turnedV lessT v sl) = 0 := by
    by_cases h : er (turnedV lessT v sl) = 0
    · exact h
    · rw [if_pos h] at ha2; exact absurd ha2 h
  rw [if_neg (by simp [e0])] at ha2 ⊢
  obtain ⟨v0, hv0⟩ := turned_er less1_ok.ne e0
  have hls : ls (turnedV lessT v sl) = v0 := by rw [hv0]; rfl
  rw [hls] at ha2 ⊢
  obtain ⟨b1, g0, s0⟩ := lessBack F.good hv0
  have d0 : Dist v0 := s0.dist F.dist
  -- units
  have hu := F.units
  unfold unitsP at hu
  have wu1 : ww u.g = u.g := ww_id (by omega) (by omega)
  have wu2 : ww u.c = u.c := ww_id (by omega) (by omega)
  have hcs := b1.cbd g0
  have bg := GS_bd sl
  have bc := CS_bd sl hcs
  generalize hU : (if (holdOf q t sl).queue = w.queue then sl.foldl takeU u else u) = u0 at ha2 ⊢
  have hU1 : ∃ x y, u0.g = ww (u.g - x) ∧ u0.c = ww (u.c - y) ∧ x = (if q = w.queue then GS sl else 0) ∧ y = (if q = w.queue then CS sl else 0) := by
    refine ⟨_, _, ?_, ?_, rfl, rfl⟩
    · rw [← hU]
      show (if q = w.queue then sl.foldl takeU u else u).g = _
      split
      · exact (take_fold sl u wu1 wu2).1
      · simp [wu1]
    · rw [← hU]
      show (if q = w.queue then sl.foldl takeU u else u).c = _
      split
      · exact (take_fold sl u wu1 wu2).2
      · simp [wu2]
  obtain ⟨x, y, hx, hy, hx2, hy2⟩ := hU1
  have hxb : 0 ≤ x ∧ x ≤ 127 * 20 := by rw [hx2]; split <;> omega
  have hyb : 0 ≤ y ∧ y ≤ 1048576 * 20 := by rw [hy2]; split <;> omega
  have hx0 : u0.g = u.g - x := by rw [hx]; exact ww_id (by omega) (by omega)
  have hy0 : u0.c = u.c - y := by rw [hy]; exact ww_id (by omega) (by omega)
  -- Earliest
  unfold earlV at ha2 ⊢
  by_cases hbad : now < 0 ∨ now > 1073741824 ∨ rightW w = false
  · rw [if_pos hbad] at ha2; cases ha2
  rw [if_neg hbad] at ha2 ⊢
  have e1 : er (turnedV moreT v0 (allV (ends ++ [holdOf q t sl]))) = 0 := by
    by_cases h : er (turnedV moreT v0 (allV (ends ++ [holdOf q t sl]))) = 0
    · exact h
    · rw [if_pos h] at ha2; exact absurd ha2 h
  rw [if_neg (by simp [e1])]
  clear ha2
  obtain ⟨z, hz⟩ := turned_er more1_ok.ne e1
  have hzA : AddsL v0 (allV (ends ++ [holdOf q t sl])) z := turnedMore ⟨rfl, fun _ => rfl⟩ g0 hz
  obtain ⟨hsrt, hstab⟩ := stable_spec (r := fun h : HoldD => h.until_) (lt := ltH) (fun x y => ltH_r x y) (ends ++ [holdOf q t sl])
  have hperm : (stable ltH (ends ++ [holdOf q t sl])).Perm (ends ++ [holdOf q t sl]) := hstab.perm
  generalize hL : stable ltH (ends ++ [holdOf q t sl]) = L at hsrt hperm
  have hzL : AddsL v0 (allV L) z := hzA.perm (allV_perm hperm).symm
  obtain ⟨lm, hlm⟩ := F.more
  have hA : AddsL v (allV ends) lm := moreVAdds F.good (fun s hs => by obtain ⟨h, h1, h2⟩ := allV_mem.1 hs; exact F.masks h h1 s h2) hlm
  have hE := earlR_le (now := now) (v := v) (u := u) (es := ends) (w := w) (by omega) (by omega) (by cases hr : rightW w with | true => exact hr | false => exact absurd (.inr (.inr hr)) hbad) (by rw [hlm]; rfl)
  refine ⟨hE.1, ?_⟩
  show _ ≤ earlFrom w L ((ends ++ [holdOf q t sl]).length + 1) 0 now v0 u0
  have hst : Stand v0 u0 w (L.take 0) v0 u0 := by
    refine ⟨by simp [allV]; exact .nil _, ?_, ?_⟩
    · simp [GQ]; rw [hx]; exact (ww_idem _).symm
    · simp [CQ]; rw [hy]; exact (ww_idem _).symm
  rcases earlFrom_spec g0 d0 hzL ((ends ++ [holdOf q t sl]).length + 1) 0 now v0 u0 (Nat.zero_le _) (fun i hi => absurd hi (Nat.not_lt_zero _)) hst with hn | ⟨k, v1, u1, r1, r2, r3, r4, r5, r6⟩
  · rw [hn]; exact hE.2.1
  generalize earlFrom w L ((ends ++ [holdOf q t sl]).length + 1) 0 now v0 u0 = r at r1 r3 r4
  refine hE.2.2 r r1 ?_
  have hft := filter_take hsrt r2 r3 r4
  rw [← hft] at r5
  have hpf : (L.filter fun h => decide (h.until_ ≤ r)).Perm ((ends ++ [holdOf q t sl]).filter fun h => decide (h.until_ ≤ r)) := hperm.filter _
  have a1 : AddsL v0 (allV ((ends ++ [holdOf q t sl]).filter fun h => decide (h.until_ ≤ r))) v1 := r5.view.perm (allV_perm hpf)
  have q1 := r5.g
  have q2 := r5.c
  rw [(GQ_perm w hpf).1] at q1
  rw [(GQ_perm w hpf).2] at q2
  rw [List.filter_append] at a1 q1 q2
  generalize hB : (ends.filter fun h => decide (h.until_ ≤ r)) = B at a1 q1 q2
  have hBsub : ∀ h ∈ B, h ∈ ends := fun h hh => by rw [← hB] at hh; exact (List.mem_filter.1 hh).1
  have hBm : ∀ s ∈ allV B, inM s := fun s hs => by obtain ⟨h, h1, h2⟩ := allV_mem.1 hs; exact F.masks h (hBsub h h1) s h2
  have hBc : ∀ h ∈ B, ∀ s ∈ h.slots.l, 0 ≤ s.c ∧ s.c ≤ 1048576 := fun h hh s hs => hA.cbd F.good s (allV_mem.2 ⟨h, hBsub h hh, hs⟩)
  have hBl : B.length ≤ 20 := by rw [← hB]; exact Nat.le_trans (List.length_filter_le _ _) F.ends
  have bQ := GQ_bd w B (fun h hh => F.each h (hBsub h hh)) hBc
  -- the reference's view at r
  obtain ⟨v3, c1⟩ : ∃ v3, AddsL v (allV B) v3 := by
    have hp : (allV ends).Perm (allV B ++ allV (ends.filter fun h => !decide (h.until_ ≤ r))) := by
      rw [← allV_app, ← hB]
      exact allV_perm (List.filter_append_perm _ _).symm
    obtain ⟨a, h1, _⟩ := (hA.perm hp).app
    exact ⟨a, h1⟩
  have hT : allT ends r = allV B := by unfold allT; rw [hB]
  have hmv : moreV v (allT ends r) = .ok v3 := by rw [hT]; exact addsMoreV F.good F.dist hBm c1
  have g3 : Good v3 := c1.keep.2 F.good
  have hU3 := at_fold r w ends u F.masks wu1 wu2
  rw [hB] at hU3
  unfold atV
  rw [hmv]
  show fits12V v3 (ends.foldl (atU r w) u) w = true
  rw [fits12_eq g3]
  have l0 : v0.length = v.length := s0.1
  have l1 : v1.length = v0.length := a1.keep.1.1
  have l3 : v3.length = v.length := c1.keep.1.1
  have hv := F.view
  have g1 : Good v1 := a1.keep.2 g0
  have hsum : (∀ s : ShapeD, s.chk = 0 → sumF s v1 ≤ sumF s v3) ∧ u1.g ≤ (ends.foldl (atU r w) u).g ∧ u1.c ≤ (ends.foldl (atU r w) u).c := by
    rw [hU3.1, hU3.2, q1, q2]
    by_cases hr : (holdOf q t sl).until_ ≤ r
    · have hf1 : [holdOf q t sl].filter (fun h => decide (h.until_ ≤ r)) = [holdOf q t sl] := by rw [List.filter_cons, if_pos (by simpa using hr), List.filter_nil]
      rw [hf1] at a1 ⊢
      rw [allV_app] at a1
      have a2 : AddsL v0 (sl ++ allV B) v1 := a1.perm (by
        have : allV [holdOf q t sl] = sl := by simp [allV, holdOf]
        rw [this]
        exact List.perm_append_comm)
      obtain ⟨a, h1, h2⟩ := a2.app
      have := h1.det d0 b1
      subst this
      have := h2.det F.dist c1
      subst this
      refine ⟨fun _ _ => Nat.le_refl _, ?_, ?_⟩
      · rw [(GQ_snoc w B _).1, hx, ww_ww]
        have : (if (holdOf q t sl).queue = w.queue then GS (holdOf q t sl).slots.l else 0) = x := hx2.symm
        rw [this, show u.g - x + (GQ w B + x) = u.g + GQ w B by omega]
        exact Int.le_refl _
      · rw [(GQ_snoc w B _).2, hy, ww_ww]
        have : (if (holdOf q t sl).queue = w.queue then CS (holdOf q t sl).slots.l else 0) = y := hy2.symm
        rw [this, show u.c - y + (CQ w B + y) = u.c + CQ w B by omega]
        exact Int.le_refl _
    · have hf1 : [holdOf q t sl].filter (fun h => decide (h.until_ ≤ r)) = [] := by rw [List.filter_cons, if_neg (by simpa using hr), List.filter_nil]
      rw [hf1, List.append_nil] at a1 ⊢
      obtain ⟨a, h1, h2⟩ := ((b1.snoc c1).perm List.perm_append_comm).app
      have := h1.det d0 a1
      subst this
      refine ⟨fun s hk => h2.room hk g1, ?_, ?_⟩
      · rw [hx0, ww_id (by omega) (by omega), ww_id (by omega) (by omega)]; omega
      · rw [hy0, ww_id (by omega) (by omega), ww_id (by omega) (by omega)]; omega
  exact fitsW_mono g1 g3 (by omega) (by omega) hsum.1 hsum.2.1 hsum.2.2 r6
end Go.Proofs.Ytneddobmlcbabaa
namespace Go.Proofs.Ytneddobmlcbabaa
open Go.SE
open Go.RowKit
open Go.PS
set_option maxRecDepth 100000

theorem fill_free {L : LookD} {j : JobD} {u : Int} (h : ∀ n, tryV placeV sfV L j u n = true) : fillV placeV sfV L j u = mostV placeV L j := by
  cases hm : mostV placeV L j with
  | error e => rw [fillV, hm]
  | ok l =>
    obtain ⟨h1, h2, m, h3, h4⟩ := mostV_ok hm
    have hl := placeF.len h4
    obtain ⟨h5, h6, h7⟩ := mostFrom_some h3
    have hc := chk0 (leftE0 h1).1
    rw [fillV, hm]
    simp only
    obtain ⟨k, hk⟩ : ∃ k : Nat, ((l.length : Int) - j.sh.mn + 1).toNat = k + 1 := ⟨((l.length : Int) - j.sh.mn).toNat, by omega⟩
    rw [hk, fillFrom, if_pos (h _), hl]
    have : slotsV placeV L j.sh m = l := by
      unfold slotsV
      rw [h4]
    rw [this]
theorem fillFrom_ok {L : LookD} {j : JobD} {u : Int} : ∀ {k : Nat} {n : Int} {l : List FreeD}, fillFrom placeV sfV L j u k n = .ok l → safeV sfV L j.id j.queue u l = true ∧ l.length ≤ 20
  | 0, n, l, h => by simp [fillFrom] at h
  | k + 1, n, l, h => by
    rw [fillFrom] at h
    split at h
    · rename_i ht
      cases h
      refine ⟨ht, ?_⟩
      unfold slotsV
      split
      · rename_i l hl; exact placeS _ _ _ _ hl
      · simp
    · exact fillFrom_ok h
theorem fill_safe {L : LookD} {j : JobD} {u : Int} {l : List FreeD} (h : fillV placeV sfV L j u = .ok l) : safeV sfV L j.id j.queue u l = true ∧ l.length ≤ 20 := by
  unfold fillV at h
  split at h
  · cases h
  · exact fillFrom_ok h
theorem fillFrom_no {L : LookD} {j : JobD} {u : Int} (h : ∀ n, tryV placeV sfV L j u n = false) : ∀ (k : Nat) (n : Int), fillFrom placeV sfV L j u k n = .error 5
  | 0, n => rfl
  | k + 1, n => by rw [fillFrom, h n, if_neg (by simp), fillFrom_no h k]
theorem fill_no {L : LookD} {j : JobD} {u : Int} (h : ∀ n, tryV placeV sfV L j u n = false) : er (fillV placeV sfV L j u) ≠ 0 := by
  unfold fillV
  split
  · rename_i e hm
    exact mostV_er placeN hm
  · rw [fillFrom_no h]; show (5 : Int) ≠ 0; decide
theorem fill_most {L : LookD} {j : JobD} {u : Int} : (er (mostV placeV L j) ≠ 0 → er (fillV placeV sfV L j u) = er (mostV placeV L j)) ∧ (ls (fillV placeV sfV L j u)).length ≤ (ls (mostV placeV L j)).length := by
  unfold fillV
  split
  · rename_i e hm
    rw [hm]
    exact ⟨fun _ => rfl, Nat.le_refl _⟩
  · rename_i l hm
    rw [hm]
    exact ⟨fun h => absurd rfl h, Nat.le_trans (fillFrom_len placeF) (by show (l.length : Int).toNat ≤ l.length; omega)⟩
theorem er_ok {r : Except Int (List FreeD)} (hr : ∀ e, r = .error e → e ≠ 0) (h : er r = 0) : r = .ok (ls r) := by
  cases r with
  | ok l => rfl
  | error e => exact absurd h (hr e rfl)
theorem fill_er {L : LookD} {j : JobD} {u : Int} {e : Int} (h : fillV placeV sfV L j u = .error e) : e ≠ 0 := by
  have hf : ∀ (k : Nat) (n : Int) (e : Int), fillFrom placeV sfV L j u k n = .error e → e ≠ 0 := by
    intro k
    induction k with
    | zero => intro n e h; rw [fillFrom] at h; cases h; decide
    | succ k ih =>
      intro n e h
      rw [fillFrom] at h
      split at h
      · cases h
      · exact ih _ _ h
  unfold fillV at h
  split at h
  · rename_i e' hm
    cases h
    exact mostV_er placeN hm
  · exact hf _ _ _ h
theorem safeV_in {L : LookD} {id q u : Int} {sl : List FreeD} {w : WantD} (hh : headV L.head L.waits.l = some w) (hid : ¬ id = L.head) (hq : ¬ (w.queue < 0 ∨ w.queue ≥ (L.left.l.length : Int))) :
    safeV sfV L id q u sl = (sfV L.now L.view.l (L.left.l.getD w.queue.toNat default) L.ends.l w L.promise q u sl).1 := by
  simp only [safeV, hh, if_neg hid, if_neg hq]
theorem safeV_out {L : LookD} {id q u : Int} {sl : List FreeD} {w : WantD} (hh : headV L.head L.waits.l = some w) (hid : ¬ id = L.head) (hq : w.queue < 0 ∨ w.queue ≥ (L.left.l.length : Int)) : safeV sfV L id q u sl = false := by
  simp only [safeV, hh, if_neg hid, if_pos hq]
theorem safeV_free {L : LookD} {id q u : Int} {sl : List FreeD} (h : headV L.head L.waits.l = none ∨ id = L.head) : safeV sfV L id q u sl = true := by
  unfold safeV
  rcases h with h | h
  · rw [h]
  · split
    · rfl
    · rw [if_pos h]
theorem sfV_2 {now prom : Int} {v : List FreeD} {u : UnitsD} {ends : List HoldD} {w : WantD} {q t : Int} {sl : List FreeD} (h : (sfV now v u ends w prom q t sl).1 = true) : (sfV now v u ends w prom q t sl).2 = 0 := by
  unfold sfV at h ⊢
  simp only [Bool.and_eq_true, decide_eq_true_eq] at h ⊢
  exact h.1
theorem grow_0 {L : LookD} {h : HoldD} {j : JobD} (hF : FewP L) (hg : growE L h j = 0) : safeV sfV L j.id j.queue h.until_ [growS L h j] = true := by
  have hg0 := hg
  unfold growE at hg
  split at hg
  · rename_i h1; exact absurd hg h1
  · rename_i h1
    split at hg
    · cases hg
    · split at hg
      · rename_i h3; exact absurd hg h3
      · rename_i h3
        obtain ⟨x, hx, _⟩ := growP_len hF (Decidable.not_not.1 h1) (Decidable.not_not.1 h3)
        split at hg
        · rename_i h4
          rw [growS, if_pos hg0, hx]
          rw [hx] at h4
          exact h4
        · cases hg
theorem grow_no {L : LookD} {h : HoldD} {j : JobD} (hs : ∀ sl, safeV sfV L j.id j.queue h.until_ sl = false) : growE L h j ≠ 0 := by
  unfold growE
  split
  · assumption
  · split
    · decide
    · split
      · assumption
      · rw [hs]; decide
end Go.Proofs.Ytneddobmlcbabaa
