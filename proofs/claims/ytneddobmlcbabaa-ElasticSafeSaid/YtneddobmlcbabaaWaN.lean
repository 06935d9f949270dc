/- A walk by symbols over the given program, a part of it: lemmas alone; what is claimed stands in the last text. No conditions of its own. -/
import Derived.Test.YtneddobmlcbabaaWaK
set_option linter.unusedVariables false
set_option linter.unusedSimpArgs false
/-! Popcount by halves, as plain Lean. -/
namespace Go.PS

/-- the sum of the j lowest digits, k bits each -/
def ds (k : Nat) : Nat → Nat → Nat
  | 0, _ => 0
  | j + 1, n => n % 2 ^ k + ds k j (n / 2 ^ k)
/-- each of the j lowest digits is at most c -/
def bd (k c : Nat) : Nat → Nat → Prop
  | 0, _ => True
  | j + 1, n => n % 2 ^ k ≤ c ∧ bd k c j (n / 2 ^ k)
def mk (k d : Nat) : Nat → Nat
  | 0 => 0
  | j + 1 => 2 ^ k * mk k d j + d

theorem mk_succ (k d j : Nat) : mk k d (j + 1) = 2 ^ k * mk k d j + d := rfl
theorem land_fields (k q M d e : Nat) (hd : d < 2 ^ k) (he : e < 2 ^ k) : (2 ^ k * q + d) &&& (2 ^ k * M + e) = 2 ^ k * (q &&& M) + (d &&& e) := by
  have h3 : (d &&& e) < 2 ^ k := Nat.lt_of_le_of_lt Nat.and_le_left hd
  apply Nat.eq_of_testBit_eq
  intro i
  rw [Nat.testBit_and, Nat.testBit_two_pow_mul_add _ hd, Nat.testBit_two_pow_mul_add _ he, Nat.testBit_two_pow_mul_add _ h3]
  split
  · rw [Nat.testBit_and]
  · rw [Nat.testBit_and]
theorem split (k n : Nat) : n = 2 ^ k * (n / 2 ^ k) + n % 2 ^ k := (Nat.div_add_mod n (2 ^ k)).symm
def c1 (j n : Nat) : Nat := ((n / 2) &&& mk 2 1 j) + (n &&& mk 2 1 j)
def c2 (j n : Nat) : Nat := ((n / 4) &&& mk 4 3 j) + (n &&& mk 4 3 j)
def c3 (j n : Nat) : Nat := (n / 16 + n) &&& mk 8 15 j
theorem and1 (d : Nat) : d &&& 1 = d % 2 := Nat.and_two_pow_sub_one_eq_mod d 1
theorem and3 (d : Nat) : d &&& 3 = d % 4 := Nat.and_two_pow_sub_one_eq_mod d 2
theorem and15 (d : Nat) : d &&& 15 = d % 16 := Nat.and_two_pow_sub_one_eq_mod d 4
theorem c1_succ (j q d : Nat) (hd : d < 4) : c1 (j + 1) (4 * q + d) = 4 * c1 j q + (d / 2 + d % 2) := by
  have e1 : (4 * q + d) / 2 = 2 ^ 2 * (q / 2) + (2 * (q % 2) + d / 2) := by omega
  have e2 : (4 * q + d) = 2 ^ 2 * q + d := by omega
  unfold c1
  rw [mk_succ, e1, e2, land_fields 2 _ _ _ _ (by omega) (by omega), land_fields 2 _ _ _ _ (by omega) (by omega), and1, and1]
  omega
theorem c1_ds : ∀ (j n : Nat), ds 2 j (c1 j n) = ds 1 (2 * j) n ∧ bd 2 2 j (c1 j n)
  | 0, n => ⟨rfl, trivial⟩
  | j + 1, n => by
    have h := c1_ds j (n / 4)
    have e : n = 4 * (n / 4) + n % 4 := by omega
    have hs := c1_succ j (n / 4) (n % 4) (by omega)
    rw [← e] at hs
    have h1 : c1 (j + 1) n % 2 ^ 2 = (n % 4) / 2 + (n % 4) % 2 := by omega
    have h2 : c1 (j + 1) n / 2 ^ 2 = c1 j (n / 4) := by omega
    have e3 : 2 * (j + 1) = 2 * j + 1 + 1 := by omega
    refine ⟨?_, ?_⟩
    · rw [e3, ds, ds, ds, h1, h2, h.1, show n / 2 ^ 1 / 2 ^ 1 = n / 4 by omega]
      omega
    · exact ⟨by omega, by rw [h2]; exact h.2⟩
theorem c2_succ (j q d : Nat) (hd : d < 16) : c2 (j + 1) (16 * q + d) = 16 * c2 j q + (d / 4 + d % 4) := by
  have e1 : (16 * q + d) / 4 = 2 ^ 4 * (q / 4) + (4 * (q % 4) + d / 4) := by omega
  have e2 : (16 * q + d) = 2 ^ 4 * q + d := by omega
  unfold c2
  rw [mk_succ, e1, e2, land_fields 4 _ _ _ _ (by omega) (by omega), land_fields 4 _ _ _ _ (by omega) (by omega), and3, and3]
  omega
theorem c2_ds : ∀ (j n : Nat), bd 2 2 (2 * j) n → ds 4 j (c2 j n) = ds 2 (2 * j) n ∧ bd 4 4 j (c2 j n)
  | 0, n, _ => ⟨rfl, trivial⟩
  | j + 1, n, hb => by
    have e3 : 2 * (j + 1) = 2 * j + 1 + 1 := by omega
    rw [e3] at hb ⊢
    obtain ⟨b1, b2, b3⟩ := hb
    have e4 : n / 2 ^ 2 / 2 ^ 2 = n / 16 := by omega
    rw [e4] at b3
    have h := c2_ds j (n / 16) b3
    have e : n = 16 * (n / 16) + n % 16 := by omega
    have hs := c2_succ j (n / 16) (n % 16) (by omega)
    rw [← e] at hs
    have h1 : c2 (j + 1) n % 2 ^ 4 = (n % 16) / 4 + (n % 16) % 4 := by omega
    have h2 : c2 (j + 1) n / 2 ^ 4 = c2 j (n / 16) := by omega
    refine ⟨?_, ?_⟩
    · rw [ds, ds, ds, h1, h2, h.1, e4]
      omega
    · exact ⟨by omega, by rw [h2]; exact h.2⟩
theorem c3_succ (j q a b : Nat) (ha : a ≤ 4) (hb : b ≤ 4) (hq : q % 16 ≤ 4) : c3 (j + 1) (256 * q + 16 * a + b) = 256 * c3 j q + (a + b) := by
  have e1 : (256 * q + 16 * a + b) / 16 + (256 * q + 16 * a + b) = 2 ^ 8 * (q / 16 + q) + (16 * (q % 16 + a) + (a + b)) := by omega
  unfold c3
  rw [mk_succ, e1, land_fields 8 _ _ _ _ (by omega) (by omega), and15]
  omega
theorem c3_ds : ∀ (j n : Nat), bd 4 4 (2 * j) n → n < 256 ^ j → ds 8 j (c3 j n) = ds 4 (2 * j) n ∧ bd 8 8 j (c3 j n) ∧ c3 j n < 256 ^ j
  | 0, n, _, hn => ⟨rfl, trivial, by simp [c3, mk]⟩
  | j + 1, n, hb, hn => by
    have e3 : 2 * (j + 1) = 2 * j + 1 + 1 := by omega
    rw [e3] at hb ⊢
    obtain ⟨b1, b2, b3⟩ := hb
    have e4 : n / 2 ^ 4 / 2 ^ 4 = n / 256 := by omega
    rw [e4] at b3
    have hn2 : n / 256 < 256 ^ j := by
      rw [Nat.pow_succ, Nat.mul_comm] at hn
      exact Nat.div_lt_of_lt_mul hn
    have h := c3_ds j (n / 256) b3 hn2
    have hq : n / 256 % 16 ≤ 4 := by
      cases j with
      | zero => simp at hn2; omega
      | succ j => exact (show bd 4 4 (2 * j + 1 + 1) (n / 256) from b3).1
    have e : n = 256 * (n / 256) + 16 * (n / 16 % 16) + n % 16 := by omega
    have hs := c3_succ j (n / 256) (n / 16 % 16) (n % 16) (by omega) (by omega) hq
    rw [← e] at hs
    have h1 : c3 (j + 1) n % 2 ^ 8 = n / 16 % 16 + n % 16 := by omega
    have h2 : c3 (j + 1) n / 2 ^ 8 = c3 j (n / 256) := by omega
    refine ⟨?_, ⟨by omega, by rw [h2]; exact h.2.1⟩, ?_⟩
    · rw [ds, ds, ds, h1, h2, h.1, e4]
      omega
    · have := h.2.2
      rw [Nat.pow_succ]
      omega
theorem last8 (a b c d e f g h : Nat) (ha : a ≤ 8) (hb : b ≤ 8) (hc : c ≤ 8) (hd : d ≤ 8) (he : e ≤ 8) (hf : f ≤ 8) (hg : g ≤ 8) (hh : h ≤ 8) (n y1 y2 : Nat)
    (hn : n = a + 256 * (b + 256 * (c + 256 * (d + 256 * (e + 256 * (f + 256 * (g + 256 * h))))))) (h1 : y1 = n + n / 256) (h2 : y2 = y1 + y1 / 65536) : (y2 + y2 / 4294967296) % 128 = a + b + c + d + e + f + g + h := by
  have e1 : n / 256 = b + 256 * (c + 256 * (d + 256 * (e + 256 * (f + 256 * (g + 256 * h))))) := by omega
  have e2 : y1 = (a + b) + 256 * ((b + c) + 256 * ((c + d) + 256 * ((d + e) + 256 * ((e + f) + 256 * ((f + g) + 256 * ((g + h) + 256 * h)))))) := by omega
  clear h1 e1 hn
  have e3 : y1 / 65536 = (c + d) + 256 * ((d + e) + 256 * ((e + f) + 256 * ((f + g) + 256 * ((g + h) + 256 * h)))) := by omega
  have e4 : y2 = (a + b + c + d) + 256 * ((b + c + d + e) + 256 * ((c + d + e + f) + 256 * ((d + e + f + g) + 256 * ((e + f + g + h) + 256 * ((f + g + h) + 256 * ((g + h) + 256 * h)))))) := by omega
  clear h2 e2 e3
  have e5 : y2 / 4294967296 = (e + f + g + h) + 256 * ((f + g + h) + 256 * ((g + h) + 256 * h)) := by omega
  omega
end Go.PS
namespace Go.Proofs.Ytneddobmlcbabaa
open Go.SE
open Go.RowKit
open Go.PS
set_option maxRecDepth 100000

def pc (x : BitVec 64) : Nat := ds 1 64 x.toNat
theorem bw_and (x y : Int) : bw .and .u64 x y = (((BitVec.ofInt 64 x) &&& (BitVec.ofInt 64 y)).toNat : Int) := by
  have h := ((BitVec.ofInt 64 x) &&& (BitVec.ofInt 64 y)).isLt
  show IntKind.u64.wrap _ = _
  show IntKind.u64.wrap (((BitVec.ofInt 64 x) &&& (BitVec.ofInt 64 y)).toNat : Int) = _
  generalize ((BitVec.ofInt 64 x) &&& (BitVec.ofInt 64 y)).toNat = n at h
  simp [IntKind.wrap, IntKind.bits, IntKind.signed]
  omega
theorem bw_or (x y : Int) : bw .or .u64 x y = (((BitVec.ofInt 64 x) ||| (BitVec.ofInt 64 y)).toNat : Int) := by
  have h := ((BitVec.ofInt 64 x) ||| (BitVec.ofInt 64 y)).isLt
  show IntKind.u64.wrap (((BitVec.ofInt 64 x) ||| (BitVec.ofInt 64 y)).toNat : Int) = _
  generalize ((BitVec.ofInt 64 x) ||| (BitVec.ofInt 64 y)).toNat = n at h
  simp [IntKind.wrap, IntKind.bits, IntKind.signed]
  omega
theorem bw_andNot (x y : Int) : bw .andNot .u64 x y = (((BitVec.ofInt 64 x) &&& ~~~ (BitVec.ofInt 64 y)).toNat : Int) := by
  have h := ((BitVec.ofInt 64 x) &&& ~~~ (BitVec.ofInt 64 y)).isLt
  show IntKind.u64.wrap (((BitVec.ofInt 64 x) &&& ~~~ (BitVec.ofInt 64 y)).toNat : Int) = _
  generalize ((BitVec.ofInt 64 x) &&& ~~~ (BitVec.ofInt 64 y)).toNat = n at h
  simp [IntKind.wrap, IntKind.bits, IntKind.signed]
  omega
theorem ofInt_toNat (x : BitVec 64) : BitVec.ofInt 64 (x.toNat : Int) = x := by
  simp
theorem a64_nat (x : Int) (y : Nat) (hy : y < 2 ^ 64) : a64 x (y : Int) = (((x % 18446744073709551616).toNat &&& y : Nat) : Int) := by
  rw [a64, bw_and, BitVec.toNat_and]
  rw [show (BitVec.ofInt 64 x).toNat = (x % 18446744073709551616).toNat by rw [BitVec.toNat_ofInt]; rfl]
  rw [show (BitVec.ofInt 64 (y : Int)).toNat = y by rw [BitVec.toNat_ofInt]; omega]
theorem ad64_nat (x y : Nat) (h : x + y < 18446744073709551616) : ad64 (x : Int) (y : Int) = ((x + y : Nat) : Int) := by
  unfold ad64
  simp [IntKind.wrap, IntKind.bits, IntKind.signed]
  omega
theorem sh64_nat (x k : Nat) (hk : k ≤ 64) : sh64 (x : Int) k = ((x / 2 ^ k : Nat) : Int) := by
  unfold sh64
  rw [Nat.min_eq_left hk, Int.fdiv_eq_ediv_of_nonneg _ (by exact Int.le_of_lt (Int.pow_pos (by decide)))]
  simp
theorem and_le (x y : Nat) : x &&& y ≤ y := Nat.and_le_right
theorem land_mod (a M : Nat) (hM : M < 2 ^ 63) : a &&& M = (a % 2 ^ 63) &&& M := by
  have h : (a &&& M) % 2 ^ 63 = (a % 2 ^ 63) &&& (M % 2 ^ 63) := Nat.and_mod_two_pow
  rw [Nat.mod_eq_of_lt hM, Nat.mod_eq_of_lt (Nat.lt_of_le_of_lt Nat.and_le_right hM)] at h
  exact h
theorem w64 {n : Nat} (h : n < 9223372036854775808) : IntKind.i64.wrap (n : Int) = (n : Int) := by
  simp [IntKind.wrap, IntKind.bits, IntKind.signed]; omega
theorem cntE_pc (x : Int) : cntE x = (pc (BitVec.ofInt 64 x) : Int) := by
  have hm1 : mk 2 1 32 = 6148914691236517205 := by decide
  have hm2 : mk 4 3 16 = 3689348814741910323 := by decide
  have hm3 : mk 8 15 8 = 1085102592571150095 := by decide
  generalize hn : (BitVec.ofInt 64 x).toNat = n
  have hn0 : n = (x % 18446744073709551616).toNat := by rw [← hn, BitVec.toNat_ofInt]; rfl
  have hlt : n < 2 ^ 64 := by rw [← hn]; exact (BitVec.ofInt 64 x).isLt
  have e1 : cnt1 x = ((c1 32 n : Nat) : Int) := by
    have hf : sh64 x 1 = x / 2 := by unfold sh64; rw [Int.fdiv_eq_ediv_of_nonneg _ (by decide)]; rfl
    rw [cnt1, hf, show (6148914691236517205 : Int) = ((6148914691236517205 : Nat) : Int) from rfl, a64_nat _ _ (by decide), a64_nat _ _ (by decide)]
    have b1 := and_le ((x / 2) % 18446744073709551616).toNat 6148914691236517205
    have b2 := and_le (x % 18446744073709551616).toNat 6148914691236517205
    rw [ad64_nat _ _ (by omega), c1, hm1, ← hn0]
    rw [land_mod _ _ (by decide), land_mod (n / 2) _ (by decide)]
    rw [show ((x / 2) % 18446744073709551616).toNat % 2 ^ 63 = n / 2 % 2 ^ 63 by omega]
  have k1 := c1_ds 32 n
  generalize hc1 : c1 32 n = n1 at e1 k1
  have l1 : n1 < 2 ^ 64 := by
    rw [← hc1, c1, hm1]
    have b1 := and_le (n / 2) 6148914691236517205
    have b2 := and_le n 6148914691236517205
    omega
  have e2 : cnt2 (cnt1 x) = ((c2 16 n1 : Nat) : Int) := by
    rw [e1, cnt2, sh64_nat _ _ (by decide), show (3689348814741910323 : Int) = ((3689348814741910323 : Nat) : Int) from rfl, a64_nat _ _ (by decide), a64_nat _ _ (by decide)]
    have b1 := and_le (((n1 / 2 ^ 2 : Nat) : Int) % 18446744073709551616).toNat 3689348814741910323
    have b2 := and_le ((n1 : Int) % 18446744073709551616).toNat 3689348814741910323
    rw [ad64_nat _ _ (by omega), c2, hm2]
    rw [show (((n1 / 2 ^ 2 : Nat) : Int) % 18446744073709551616).toNat = n1 / 4 by omega, show ((n1 : Int) % 18446744073709551616).toNat = n1 by omega]
  have k2 := c2_ds 16 n1 k1.2
  generalize hc2 : c2 16 n1 = n2 at e2 k2
  have l2 : n2 < 2 ^ 63 := by
    rw [← hc2, c2, hm2]
    have b1 := and_le (n1 / 4) 3689348814741910323
    have b2 := and_le n1 3689348814741910323
    omega
  have e3 : cnt3 (cnt2 (cnt1 x)) = ((c3 8 n2 : Nat) : Int) := by
    rw [e2, cnt3, sh64_nat _ _ (by decide), ad64_nat _ _ (by omega), show (1085102592571150095 : Int) = ((1085102592571150095 : Nat) : Int) from rfl, a64_nat _ _ (by decide), c3, hm3]
    rw [show (((n2 / 2 ^ 4 + n2 : Nat) : Int) % 18446744073709551616).toNat = n2 / 16 + n2 by omega]
  have k3 := c3_ds 8 n2 k2.2 (by omega)
  have hc3 : c3 8 n2 ≤ 1085102592571150095 := by rw [c3, hm3]; exact and_le _ _
  generalize c3 8 n2 = n3 at e3 k3 hc3
  have hp : ds 8 8 n3 = pc (BitVec.ofInt 64 x) := by
    rw [k3.1, k2.1, k1.1, pc, hn]
  obtain ⟨_, k3, _⟩ := k3
  have q1 : cnt4 (cnt3 (cnt2 (cnt1 x))) 8 = ((n3 + n3 / 256 : Nat) : Int) := by
    rw [e3, cnt4, sh64_nat _ _ (by decide), ad64_nat _ _ (by omega)]
  generalize hy1 : n3 + n3 / 256 = y1 at q1
  have q2 : cnt4 (cnt4 (cnt3 (cnt2 (cnt1 x))) 8) 16 = ((y1 + y1 / 65536 : Nat) : Int) := by
    rw [q1, cnt4, sh64_nat _ _ (by decide), ad64_nat _ _ (by omega)]
  generalize hy2 : y1 + y1 / 65536 = y2 at q2
  have q3 : cnt4 (cnt4 (cnt4 (cnt3 (cnt2 (cnt1 x))) 8) 16) 32 = ((y2 + y2 / 4294967296 : Nat) : Int) := by
    rw [q2, cnt4, sh64_nat _ _ (by decide), ad64_nat _ _ (by omega)]
  have q4 := last8 (n3 % 256) (n3 / 256 % 256) (n3 / 256 / 256 % 256) (n3 / 256 / 256 / 256 % 256) (n3 / 256 / 256 / 256 / 256 % 256) (n3 / 256 / 256 / 256 / 256 / 256 % 256) (n3 / 256 / 256 / 256 / 256 / 256 / 256 % 256) (n3 / 256 / 256 / 256 / 256 / 256 / 256 / 256 % 256)
    k3.1 k3.2.1 k3.2.2.1 k3.2.2.2.1 k3.2.2.2.2.1 k3.2.2.2.2.2.1 k3.2.2.2.2.2.2.1 k3.2.2.2.2.2.2.2.1 n3 y1 y2 (by omega) hy1.symm hy2.symm
  rw [← hp]
  have hds : ds 8 8 n3 = n3 % 256 + n3 / 256 % 256 + n3 / 256 / 256 % 256 + n3 / 256 / 256 / 256 % 256 + n3 / 256 / 256 / 256 / 256 % 256 + n3 / 256 / 256 / 256 / 256 / 256 % 256 + n3 / 256 / 256 / 256 / 256 / 256 / 256 % 256 + n3 / 256 / 256 / 256 / 256 / 256 / 256 / 256 % 256 := by
    simp only [ds, show (2 : Nat) ^ 8 = 256 from rfl]
    omega
  rw [hds, ← q4, cntE, q3]
  have hy : y2 + y2 / 4294967296 < 2 ^ 63 := by omega
  generalize y2 + y2 / 4294967296 = y at hy
  have hw : IntKind.i64.wrap (y : Int) = (y : Int) := w64 (by omega)
  rw [hw]
  show IntKind.i64.wrap (((BitVec.ofInt 64 (y : Int)) &&& (BitVec.ofInt 64 127)).toNat : Int) = _
  rw [BitVec.toNat_and]
  rw [show (BitVec.ofInt 64 (y : Int)).toNat = y by rw [BitVec.toNat_ofInt]; omega, show (BitVec.ofInt 64 127).toNat = 127 from rfl]
  rw [show y &&& 127 = y % 128 from Nat.and_two_pow_sub_one_eq_mod y 7]
  exact w64 (by omega)
end Go.Proofs.Ytneddobmlcbabaa
namespace Go.Proofs.Ytneddobmlcbabaa
open Go.SE
open Go.RowKit
open Go.PS
set_option maxRecDepth 100000

theorem ds_zero : ∀ j, ds 1 j 0 = 0
  | 0 => rfl
  | j + 1 => by simp [ds, ds_zero j]
theorem ds_drop : ∀ (j n : Nat), 0 < n → n < 2 ^ j → ds 1 j (n &&& (n - 1)) + 1 = ds 1 j n
  | 0, n, h0, h1 => by simp at h1; omega
  | j + 1, n, h0, h1 => by
    have h1 : n / 2 < 2 ^ j := by rw [Nat.pow_succ] at h1; omega
    by_cases hd : n % 2 = 1
    · have e1 : n = 2 ^ 1 * (n / 2) + 1 := by omega
      have e2 : n - 1 = 2 ^ 1 * (n / 2) + 0 := by omega
      have e3 : n &&& (n - 1) = 2 ^ 1 * (n / 2) := by
        conv => lhs; rw [e2]; lhs; rw [e1]
        rw [land_fields 1 _ _ _ _ (by omega) (by omega)]
        simp
      rw [e3, ds, ds]
      rw [show 2 ^ 1 * (n / 2) % 2 ^ 1 = 0 by omega, show 2 ^ 1 * (n / 2) / 2 ^ 1 = n / 2 by omega, show n % 2 ^ 1 = 1 by omega, show n / 2 ^ 1 = n / 2 by omega]
      omega
    · have e1 : n = 2 ^ 1 * (n / 2) + 0 := by omega
      have e2 : n - 1 = 2 ^ 1 * (n / 2 - 1) + 1 := by omega
      have e3 : n &&& (n - 1) = 2 ^ 1 * ((n / 2) &&& (n / 2 - 1)) := by
        conv => lhs; rw [e2]; lhs; rw [e1]
        rw [land_fields 1 _ _ _ _ (by omega) (by omega)]
        simp
      have ih := ds_drop j (n / 2) (by omega) h1
      generalize (n / 2) &&& (n / 2 - 1) = z at e3 ih
      rw [e3, ds, ds]
      rw [show 2 ^ 1 * z % 2 ^ 1 = 0 by omega, show 2 ^ 1 * z / 2 ^ 1 = z by omega, show n % 2 ^ 1 = 0 by omega, show n / 2 ^ 1 = n / 2 by omega]
      omega
def dB (B : BitVec 64) : BitVec 64 := B &&& (B - 1#64)
theorem pc_zero : pc 0#64 = 0 := ds_zero 64
theorem pc_dB (B : BitVec 64) (h : B ≠ 0#64) : pc (dB B) + 1 = pc B := by
  have h0 : 0 < B.toNat := by
    rcases Nat.eq_zero_or_pos B.toNat with h1 | h1
    · exact absurd (BitVec.eq_of_toNat_eq (by rw [h1]; rfl)) h
    · exact h1
  have e : (dB B).toNat = B.toNat &&& (B.toNat - 1) := by
    unfold dB
    rw [BitVec.toNat_and, BitVec.toNat_sub]
    have := B.isLt
    rw [show (2 ^ 64 - (1#64).toNat + B.toNat) % 2 ^ 64 = B.toNat - 1 by
      rw [show (1#64).toNat = 1 from rfl]; omega]
  unfold pc
  rw [e]
  exact ds_drop 64 B.toNat h0 B.isLt
theorem ofInt_wrap (z : Int) : BitVec.ofInt 64 (IntKind.u64.wrap z) = BitVec.ofInt 64 z := by
  apply BitVec.eq_of_toNat_eq
  rw [BitVec.toNat_ofInt, BitVec.toNat_ofInt]
  simp [IntKind.wrap, IntKind.bits, IntKind.signed]
theorem ofInt_sub1 (m : Int) : BitVec.ofInt 64 (m - 1) = BitVec.ofInt 64 m - 1#64 := by
  apply BitVec.eq_of_toNat_eq
  rw [BitVec.toNat_sub, BitVec.toNat_ofInt, BitVec.toNat_ofInt, show (1#64).toNat = 1 from rfl]
  omega
theorem ofInt_neg' (m : Int) : BitVec.ofInt 64 (0 - m) = ~~~ (BitVec.ofInt 64 m - 1#64) := by
  apply BitVec.eq_of_toNat_eq
  rw [BitVec.toNat_not, BitVec.toNat_sub, BitVec.toNat_ofInt, BitVec.toNat_ofInt, show (1#64).toNat = 1 from rfl]
  omega
theorem dropBit_B (m : Int) : BitVec.ofInt 64 (dropBit m) = dB (BitVec.ofInt 64 m) := by
  rw [dropBit, bw_and, ofInt_toNat, ofInt_wrap, ofInt_sub1]; rfl
theorem lowBit_B (m : Int) : BitVec.ofInt 64 (lowBit m) = BitVec.ofInt 64 m &&& ~~~ (BitVec.ofInt 64 m - 1#64) := by
  rw [lowBit, bw_and, ofInt_toNat, ofInt_wrap, ofInt_neg']
def itD : Nat → BitVec 64 → BitVec 64
  | 0, B => B
  | k + 1, B => itD k (dB B)
theorem itD_sub : ∀ (k : Nat) (B : BitVec 64), itD k B &&& B = itD k B
  | 0, B => by simp [itD]
  | k + 1, B => by
    have h := itD_sub k (dB B)
    rw [itD]
    generalize itD k (dB B) = D at h
    rw [← h]
    unfold dB
    ext i
    simp only [BitVec.getElem_and]
    generalize D[i] = d; generalize B[i] = b; generalize (B - 1#64)[i] = x
    cases d <;> cases b <;> cases x <;> rfl
theorem itD_zero : ∀ k, itD k 0#64 = 0#64
  | 0 => rfl
  | k + 1 => by rw [itD, show dB 0#64 = 0#64 from rfl]; exact itD_zero k
theorem lowN_B : ∀ (k : Nat) (m out : Int), BitVec.ofInt 64 (lowN k m out) = BitVec.ofInt 64 out ||| (BitVec.ofInt 64 m &&& ~~~ (itD k (BitVec.ofInt 64 m)))
  | 0, m, out => by
    rw [lowN, itD]
    generalize BitVec.ofInt 64 m = B; generalize BitVec.ofInt 64 out = O
    ext i
    simp only [BitVec.getElem_and, BitVec.getElem_or, BitVec.getElem_not]
    generalize B[i] = b; generalize O[i] = o
    cases b <;> cases o <;> rfl
  | k + 1, m, out => by
    rw [lowN]
    split
    · rename_i h
      subst h
      simp
    · rw [lowN_B k, dropBit_B, or64, bw_or, ofInt_toNat, lowBit_B, itD]
      generalize BitVec.ofInt 64 m = B; generalize BitVec.ofInt 64 out = O
      have h := itD_sub k (dB B)
      generalize itD k (dB B) = D at h
      unfold dB at h ⊢
      rw [← h]
      generalize (B - 1#64) = X
      ext i
      simp only [BitVec.getElem_and, BitVec.getElem_or, BitVec.getElem_not]
      generalize B[i] = b; generalize O[i] = o; generalize X[i] = x; generalize D[i] = d
      cases b <;> cases o <;> cases x <;> cases d <;> rfl
theorem pc_itD (k : Nat) : ∀ (B : BitVec 64), k ≤ pc B → pc (itD k B) + k = pc B := by
  induction k with
  | zero => intro B _; rw [itD, Nat.add_zero]
  | succ k ih =>
    intro B h
    have hB : B ≠ 0#64 := by intro hb; rw [hb, pc_zero] at h; exact absurd h (Nat.not_succ_le_zero k)
    have h1 := pc_dB B hB
    have h2 := ih (dB B)
    rw [itD]
    generalize pc (dB B) = x at h1 h2
    generalize pc B = y at h1 h
    generalize pc (itD k (dB B)) = z at h2
    omega
/-- Without its g lowest bits it has g bits less. -/
theorem cnt_cut (m g : Int) (h0 : 0 ≤ g) (h1 : g ≤ cntE m) : cntE (bw .andNot .u64 m (lowV m g)) = cntE m - g := by
  rw [cntE_pc] at h1 ⊢
  rw [cntE_pc, bw_andNot, ofInt_toNat]
  have hE : lowE m g = 0 := by rw [lowE, if_neg (by omega), if_neg (by rw [cntE_pc]; omega)]
  rw [lowV, if_pos hE, lowN_B]
  generalize BitVec.ofInt 64 m = B at h1
  have hk := pc_itD g.toNat B (by omega)
  have hs := itD_sub g.toNat B
  generalize itD g.toNat B = D at hk hs
  have : B &&& ~~~ (BitVec.ofInt 64 0 ||| (B &&& ~~~ D)) = D := by
    rw [← hs]
    ext i
    simp only [BitVec.getElem_and, BitVec.getElem_or, BitVec.getElem_not, show BitVec.ofInt 64 0 = 0#64 from rfl, BitVec.getElem_zero]
    generalize B[i] = b; generalize D[i] = d
    cases b <;> cases d <;> rfl
  rw [this]
  omega
end Go.Proofs.Ytneddobmlcbabaa
namespace Go.Proofs.Ytneddobmlcbabaa
open Go.SE
open Go.RowKit
open Go.PS
set_option maxRecDepth 100000

theorem w64' {n : Int} (h : -9223372036854775808 ≤ n) (h2 : n < 9223372036854775808) : IntKind.i64.wrap n = n := by
  simp [IntKind.wrap, IntKind.bits, IntKind.signed]; omega
theorem eachV_0 {x : Int} : eachV x 0 = 16 := by rw [eachV, if_pos rfl]
theorem eachV_p {x y : Int} (hx : 0 ≤ x) (hx2 : x ≤ 1048576) (hy : 0 < y) : eachV x y = x / y := by
  rw [eachV, if_neg (by omega), Int.tdiv_eq_ediv_of_nonneg hx]
  have h1 := Int.ediv_nonneg hx (Int.le_of_lt hy)
  have h2 := Int.ediv_le_self y hx
  exact w64' (by omega) (by omega)
theorem eachV_cut {x y : Int} (hx : 0 ≤ x) (hx2 : x ≤ 1048576) (hy : 0 ≤ y) (h : y ≤ x) : eachV x y - 1 ≤ eachV (x - y) y := by
  by_cases h0 : y = 0
  · subst h0; rw [eachV_0, eachV_0]; omega
  · rw [eachV_p hx hx2 (by omega), eachV_p (by omega) (by omega) (by omega)]
    rw [Int.sub_ediv_of_dvd x (Int.dvd_refl y), Int.ediv_self h0]
    exact Int.le_refl _
theorem eachV_pos {x y : Int} (hx : 0 ≤ x) (hx2 : x ≤ 1048576) (hy : 0 ≤ y) (h : 1 ≤ eachV x y) : y ≤ x := by
  by_cases h0 : y = 0
  · omega
  · rw [eachV_p hx hx2 (by omega)] at h
    have := (Int.le_ediv_iff_mul_le (by omega : 0 < y)).1 h
    omega
theorem eachV_nn {x y : Int} (hx : 0 ≤ x) (hx2 : x ≤ 1048576) (hy : 0 ≤ y) : 0 ≤ eachV x y := by
  by_cases h0 : y = 0
  · subst h0; rw [eachV_0]; decide
  · rw [eachV_p hx hx2 (by omega)]
    exact Int.ediv_nonneg hx hy
def inC (f : FreeD) : Prop := 0 ≤ f.c ∧ f.c ≤ 1048576
theorem fitsF_eq {s : ShapeD} {f : FreeD} (hk : s.chk = 0) (hc : inC f) : fitsF s f = minI (minI 16 (eachV (cntE f.m) s.g)) (eachV f.c s.c) := by
  rw [fitsF, fitsV, if_neg]
  rintro (h | h)
  · exact h hk
  · exact absurd h (by have := hc.1; omega)
theorem fitsF_bd {s : ShapeD} {f : FreeD} (hk : s.chk = 0) (hc : inC f) : 0 ≤ fitsF s f ∧ fitsF s f ≤ 16 := by
  rw [fitsF_eq hk hc]
  have h := chk0 hk
  have b := cntE_bd f.m
  have e1 := eachV_nn (x := cntE f.m) (y := s.g) b.1 (by omega) h.1
  have e2 := eachV_nn (x := f.c) (y := s.c) hc.1 hc.2 h.2.2.1
  unfold minI
  split <;> split <;> omega
theorem pieceE_0 {s : ShapeD} {f : FreeD} (hk : s.chk = 0) : pieceE s f ≠ 0 ↔ fitsF s f = 0 := by
  rw [pieceE, if_neg (by simp [hk])]
  split <;> simp [*]
theorem pieceL_ok {s : ShapeD} {f : FreeD} (hk : s.chk = 0) (hc : inC f) (hf : fitsF s f ≠ 0) : inC (pieceL s f) ∧ fitsF s f - 1 ≤ fitsF s (pieceL s f) := by
  have h := chk0 hk
  have b := cntE_bd f.m
  have hb := fitsF_bd hk hc
  have hE : pieceE s f = 0 := Decidable.not_not.1 fun he => hf ((pieceE_0 hk).1 he)
  have hq := fitsF_eq hk hc
  have q1 : 1 ≤ eachV (cntE f.m) s.g := by
    rw [hq] at hb hf; unfold minI at hb hf; repeat' split at hf <;> omega
  have q2 : 1 ≤ eachV f.c s.c := by
    rw [hq] at hb hf; unfold minI at hb hf; repeat' split at hf <;> omega
  have g1 := eachV_pos b.1 (by omega) h.1 q1
  have g2 := eachV_pos hc.1 hc.2 h.2.2.1 q2
  have hL : pieceL s f = ⟨f.nd, f.dm, bw .andNot .u64 f.m (lowV f.m s.g), f.c - s.c⟩ := by
    rw [pieceL, if_pos hE, pieceM, w64' (by have := hc.1; omega) (by have := hc.2; omega)]
  have hc' : inC (pieceL s f) := by
    rw [hL]
    exact ⟨by show 0 ≤ f.c - s.c; omega, by show f.c - s.c ≤ _; have := hc.2; omega⟩
  refine ⟨hc', ?_⟩
  rw [hq, fitsF_eq hk hc', hL]
  dsimp only
  rw [cnt_cut _ _ h.1 g1]
  have k1 := eachV_cut b.1 (by omega) h.1 g1
  have k2 := eachV_cut hc.1 hc.2 h.2.2.1 g2
  unfold minI
  repeat' split <;> try omega
theorem cutL_ge {s : ShapeD} (hk : s.chk = 0) : ∀ (k : Nat) (f : FreeD), inC f → min k (fitsF s f).toNat ≤ (cutL s k f).length
  | 0, f, _ => by simp
  | k + 1, f, hc => by
    rw [cutL]
    have hb := fitsF_bd hk hc
    split
    · rename_i h
      rw [(pieceE_0 hk).1 h]
      simp
    · rename_i h
      have hf : fitsF s f ≠ 0 := fun h0 => h ((pieceE_0 hk).2 h0)
      obtain ⟨h1, h2⟩ := pieceL_ok hk hc hf
      have ih := cutL_ge hk k (pieceL s f) h1
      rw [List.length_cons]
      omega
def sumF (s : ShapeD) (l : List FreeD) : Nat := (l.map fun f => (fitsF s f).toNat).sum
theorem placeL_ge {s : ShapeD} (hk : s.chk = 0) (n : Nat) : ∀ (l out : List FreeD), (∀ f ∈ l, inC f) → out.length ≤ n → min n (out.length + sumF s l) ≤ (placeL s n l out).length
  | [], out, _, h => by simp [placeL, sumF]; omega
  | f :: r, out, hc, h => by
    rw [placeL]
    have h1 := cutL_ge hk (n - out.length) f (hc f (by simp))
    have h2 := cutL_len s (n - out.length) f
    have ih := placeL_ge hk n r (out ++ cutL s (n - out.length) f) (fun x hx => hc x (by simp [hx])) (by rw [List.length_append]; omega)
    rw [List.length_append] at ih
    have : sumF s (f :: r) = (fitsF s f).toNat + sumF s r := by simp [sumF]
    omega
theorem roomV_sum {s : ShapeD} (hk : s.chk = 0) : ∀ (l : List FreeD) (z : Int), (∀ f ∈ l, inC f) → 0 ≤ z → z + 16 * (l.length : Int) ≤ 1000000 → l.foldl (fun n f => IntKind.i64.wrap (n + fitsF s f)) z = z + (sumF s l : Int)
  | [], z, _, _, _ => by simp [sumF]
  | f :: r, z, hc, h0, h1 => by
    have hb := fitsF_bd hk (hc f (by simp))
    rw [List.foldl_cons, w64' (by omega) (by rw [List.length_cons] at h1; omega)]
    rw [roomV_sum hk r _ (fun x hx => hc x (by simp [hx])) (by omega) (by rw [List.length_cons] at h1; omega)]
    have : sumF s (f :: r) = (fitsF s f).toNat + sumF s r := by simp [sumF]
    omega
theorem cmpI_pos (x y : Int) : decide (cmpV x y > 0) = decide (-x < -y) := by
  unfold cmpV
  split
  · simp; omega
  · split
    · simp; omega
    · simp; omega
theorem placeF : PlaceF placeV := by
  refine ⟨fun {v s n l} h => ?_, fun {v s n} hl hr hk h1 h2 h3 => ?_⟩
  · unfold placeV at h
    split at h
    · cases h
    · split at h
      · cases h
      · rename_i q1 q2
        cases h
        have := placeL_len s n.toNat (stable (ltF s) v) [] (Nat.zero_le _)
        omega
  · have hp : (stable (ltF s) v).Perm v := (stable_spec (r := fun f => - fitsF s f) (lt := ltF s) (fun x y => cmpI_pos _ _) v).2.perm
    have hs : sumF s (stable (ltF s) v) = sumF s v := (hp.map _).sum_nat
    have hge := placeL_ge hk n.toNat (stable (ltF s) v) [] (fun f hf => hr f (hp.mem_iff.1 hf)) (Nat.zero_le _)
    have hroom : roomV s v = (sumF s v : Int) := by
      have := roomV_sum hk v 0 hr (Int.le_refl _) (by omega)
      rw [roomV, this]; omega
    refine ⟨placeL s n.toNat (stable (ltF s) v) [], ?_⟩
    · unfold placeV
      rw [if_neg, if_neg]
      · rw [hs] at hge; simp at hge; omega
      · rintro (h | h | h)
        · exact h hk
        · omega
        · omega
theorem placeS : PlaceS placeV := by
  intro v s n l h
  have := placeF.len h
  unfold placeV at h
  split at h
  · cases h
  · rename_i q
    have : ¬ n > 16 := fun hn => q (.inr (.inr hn))
    omega
theorem placeN : PlaceN placeV := by
  intro v s n e h
  unfold placeV at h
  split at h
  · injection h with h; subst h; decide
  · split at h
    · injection h with h; subst h; decide
    · cases h
end Go.Proofs.Ytneddobmlcbabaa
