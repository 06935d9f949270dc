/- A walk by symbols over the given program, a part of it: lemmas alone; what is claimed stands in the last text. No conditions of its own. -/

set_option linter.unusedVariables false
set_option linter.unusedSimpArgs false
set_option linter.unusedVariables false
set_option linter.unusedSimpArgs false
namespace Go.PS
section
variable {α : Type}
variable (r : α → Int)
def Srt (L : List α) : Prop := L.Pairwise fun x y => r x ≤ r y
def Stab (L L' : List α) : Prop := ∀ v, L'.filter (fun x => r x == v) = L.filter (fun x => r x == v)
variable {r}
theorem Stab.refl (L : List α) : Stab r L L := fun _ => rfl
theorem Stab.trans {A B C : List α} (h : Stab r A B) (k : Stab r B C) : Stab r A C := fun v => (k v).trans (h v)
theorem Stab.app {A B A' B' : List α} (h : Stab r A A') (k : Stab r B B') : Stab r (A ++ B) (A' ++ B') := fun v => by
  rw [List.filter_append, List.filter_append, h v, k v]
theorem Stab.mem {A B : List α} (h : Stab r A B) (x : α) : x ∈ B ↔ x ∈ A := by
  have := h (r x)
  have h1 : x ∈ B.filter (fun y => r y == r x) ↔ x ∈ B := by simp
  have h2 : x ∈ A.filter (fun y => r y == r x) ↔ x ∈ A := by simp
  rw [← h1, this, h2]
theorem Stab.swap {U V : List α} (h : ∀ u ∈ U, ∀ v ∈ V, r u ≠ r v) : Stab r (U ++ V) (V ++ U) := fun x => by
  rw [List.filter_append, List.filter_append]
  by_cases hu : ∃ u ∈ U, r u = x
  · obtain ⟨u, hu, rfl⟩ := hu
    have : V.filter (fun y => r y == r u) = [] := by
      rw [List.filter_eq_nil_iff]
      intro v hv
      have := h u hu v hv
      simp; exact fun e => this e.symm
    rw [this]; simp
  · have : U.filter (fun y => r y == x) = [] := by
      rw [List.filter_eq_nil_iff]
      intro u hu'
      simp; exact fun e => hu ⟨u, hu', e⟩
    rw [this]; simp
theorem Stab.perm {A B : List α} (h : Stab r A B) : B.Perm A := by
  classical
  refine List.perm_iff_count.2 fun x => ?_
  have := congrArg (List.count x) (h (r x))
  rw [List.count_filter (by simp), List.count_filter (by simp)] at this
  exact this
theorem Stab.len {A B : List α} (h : Stab r A B) : B.length = A.length := h.perm.length_eq
theorem Srt.app {A B : List α} (hA : Srt r A) (hB : Srt r B) (h : ∀ a ∈ A, ∀ b ∈ B, r a ≤ r b) : Srt r (A ++ B) := List.pairwise_append.2 ⟨hA, hB, h⟩
theorem srt_take {L : List α} (h : Srt r L) (n : Nat) : Srt r (L.take n) := h.sublist (List.take_sublist _ _)
theorem srt_drop {L : List α} (h : Srt r L) (n : Nat) : Srt r (L.drop n) := h.sublist (List.drop_sublist _ _)
end
variable {α : Type} [Inhabited α]

/-! ### Go's stable sort, as plain Lean -/
def swapL (L : List α) (i j : Nat) : List α := (L.set i (L.getD j default)).set j (L.getD i default)
def sink (lt : α → α → Bool) (a : Nat) : Nat → List α → List α
  | 0, L => L
  | k + 1, L => if lt (L.getD (a + k + 1) default) (L.getD (a + k) default) then sink lt a k (swapL L (a + k + 1) (a + k)) else L
def insFrom (lt : α → α → Bool) (a : Nat) : Nat → Nat → List α → List α
  | 0, _, L => L
  | c + 1, i, L => insFrom lt a c (i + 1) (sink lt a (i - a) L)
def insSort (lt : α → α → Bool) (a b : Nat) (L : List α) : List α := insFrom lt a (b - (a + 1)) (a + 1) L
def swR : Nat → Nat → Nat → List α → List α
  | 0, _, _, L => L
  | c + 1, a, b, L => swR c (a + 1) (b + 1) (swapL L a b)
def rot (m : Nat) : Nat → Nat → Nat → List α → List α
  | 0, i, _, L => swR i (m - i) m L
  | f + 1, i, j, L => if i = j then swR i (m - i) m L else if i > j then rot m f (i - j) j (swR j (m - i) m L) else rot m f i (j - i) (swR i (m - i) (m + j - i) L)
def bs (p : Nat → Bool) : Nat → Nat → Nat → Nat
  | 0, i, _ => i
  | f + 1, i, j => if i < j then (if p ((i + j) / 2) then bs p f ((i + j) / 2 + 1) j else bs p f i ((i + j) / 2)) else i
def shUp : Nat → Nat → List α → List α
  | 0, _, L => L
  | c + 1, k, L => shUp c (k + 1) (swapL L k (k + 1))
def shDn : Nat → Nat → List α → List α
  | 0, _, L => L
  | c + 1, k, L => shDn c (k - 1) (swapL L k (k - 1))
def symS (lt : α → α → Bool) (a m b : Nat) (L : List α) : Nat :=
  bs (fun c => !lt (L.getD ((a + b) / 2 + m - 1 - c) default) (L.getD c default)) (b - a) (if m > (a + b) / 2 then (a + b) / 2 + m - b else a) (if m > (a + b) / 2 then (a + b) / 2 else m)
def symM (lt : α → α → Bool) : Nat → Nat → Nat → Nat → List α → List α
  | 0, _, _, _, L => L
  | f + 1, a, m, b, L =>
    if m - a = 1 then shUp (bs (fun h => lt (L.getD h default) (L.getD a default)) (b - a) m b - 1 - a) a L
    else if b - m = 1 then shDn (m - bs (fun h => !lt (L.getD m default) (L.getD h default)) (b - a) a m) m L
    else
      let s := symS lt a m b L
      let mid := (a + b) / 2
      let e := mid + m - s
      let L1 := if s < m ∧ m < e then rot m (e - s) (m - s) (e - m) L else L
      let L2 := if a < s ∧ s < mid then symM lt f a s mid L1 else L1
      if mid < e ∧ e < b then symM lt f mid e b L2 else L2
def insBlocks (lt : α → α → Bool) (n : Nat) : Nat → Nat → List α → List α
  | 0, a, L => insSort lt a n L
  | f + 1, a, L => if a + 20 ≤ n then insBlocks lt n f (a + 20) (insSort lt a (a + 20) L) else insSort lt a n L
def mergePass (lt : α → α → Bool) (k n : Nat) : Nat → Nat → List α → List α
  | 0, a, L => if a + k < n then symM lt n a (a + k) n L else L
  | f + 1, a, L => if a + 2 * k ≤ n then mergePass lt k n f (a + 2 * k) (symM lt n a (a + k) (a + 2 * k) L) else if a + k < n then symM lt n a (a + k) n L else L
def mergeAll (lt : α → α → Bool) (n : Nat) : Nat → Nat → List α → List α
  | 0, _, L => L
  | f + 1, k, L => if k < n then mergeAll lt n f (2 * k) (mergePass lt k n n 0 L) else L
def stable (lt : α → α → Bool) (L : List α) : List α := mergeAll lt L.length L.length 20 (insBlocks lt L.length L.length 0 L)

/-! ### what it does -/
theorem getD_mid (X Z : List α) (x : α) : (X ++ x :: Z).getD X.length default = x := by
  simp [List.getD_eq_getElem?_getD]
theorem swapL_far (X Y Z : List α) (x y : α) : swapL (X ++ x :: (Y ++ y :: Z)) X.length (X.length + Y.length + 1) = X ++ y :: (Y ++ x :: Z) := by
  have h1 : (X ++ x :: (Y ++ y :: Z)).getD (X.length + Y.length + 1) default = y := by
    have := getD_mid (X ++ x :: Y) Z y
    simp only [List.append_assoc, List.cons_append, List.length_append, List.length_cons] at this
    rw [show X.length + Y.length + 1 = X.length + (Y.length + 1) by omega]; exact this
  have h2 := getD_mid X (Y ++ y :: Z) x
  unfold swapL
  rw [h1, h2]
  rw [List.set_append_right _ _ (Nat.le_refl _)]
  simp only [Nat.sub_self, List.set_cons_zero]
  rw [List.set_append_right _ _ (by omega), show X.length + Y.length + 1 - X.length = Y.length + 1 by omega, List.set_cons_succ, List.set_append_right _ _ (Nat.le_refl _)]
  simp
theorem swapL_adj (X Z : List α) (x y : α) : swapL (X ++ x :: y :: Z) X.length (X.length + 1) = X ++ y :: x :: Z := by
  have := swapL_far X [] Z x y
  simpa using this
theorem swapL_comm (L : List α) (i j : Nat) : swapL L i j = swapL L j i := by
  unfold swapL
  by_cases h : i = j
  · subst h; rfl
  · rw [List.set_comm _ _ h]
theorem swapL_adj' (X Z : List α) (x y : α) : swapL (X ++ x :: y :: Z) (X.length + 1) X.length = X ++ y :: x :: Z := by rw [swapL_comm]; exact swapL_adj X Z x y
theorem swapL_length (L : List α) (i j : Nat) : (swapL L i j).length = L.length := by simp [swapL]

variable {r : α → Int}
/-! insertion -/
theorem sink_spec {lt : α → α → Bool} (hlt : ∀ x y, lt x y = decide (r x < r y)) : ∀ (n : Nat) (X S Z : List α) (x : α), S.length = n → Srt r S → ∃ S1 S2, S = S1 ++ S2 ∧ sink lt X.length n (X ++ S ++ x :: Z) = X ++ (S1 ++ x :: S2) ++ Z ∧ (∀ s ∈ S1, r s ≤ r x) ∧ (∀ s ∈ S2, r x < r s)
  | 0, X, S, Z, x, h, hs => by
    have : S = [] := List.length_eq_zero_iff.1 h
    subst this
    exact ⟨[], [], rfl, by simp [sink], by simp, by simp⟩
  | n + 1, X, S, Z, x, h, hs => by
    obtain ⟨S', y, rfl⟩ : ∃ S' y, S = S' ++ [y] := ⟨S.dropLast, S.getLast (by intro e; subst e; simp at h), (List.dropLast_concat_getLast _).symm⟩
    simp at h
    have e1 : (X ++ (S' ++ [y]) ++ x :: Z) = (X ++ S') ++ y :: x :: Z := by simp
    have g1 : (X ++ (S' ++ [y]) ++ x :: Z).getD (X.length + n + 1) default = x := by
      have := getD_mid (X ++ S' ++ [y]) Z x
      rw [e1]
      simp only [List.append_assoc, List.cons_append, List.nil_append, List.length_append, List.length_cons, List.length_nil] at this ⊢
      rw [show X.length + n + 1 = X.length + (S'.length + (0 + 1)) by omega]; exact this
    have g2 : (X ++ (S' ++ [y]) ++ x :: Z).getD (X.length + n) default = y := by
      have := getD_mid (X ++ S') (x :: Z) y
      rw [e1]
      simp only [List.length_append] at this
      rw [show X.length + n = X.length + S'.length by omega]; exact this
    simp only [sink, g1, g2, hlt]
    have hs' : Srt r S' ∧ ∀ s ∈ S', r s ≤ r y := by
      have := List.pairwise_append.1 hs
      exact ⟨this.1, fun s h => this.2.2 s h y (by simp)⟩
    split
    · rename_i hxy
      have hxy : r x < r y := by simpa using hxy
      have e2 : swapL (X ++ (S' ++ [y]) ++ x :: Z) (X.length + n + 1) (X.length + n) = X ++ S' ++ x :: (y :: Z) := by
        rw [e1, show X.length + n = (X ++ S').length by simp [h], swapL_adj']
      rw [e2]
      obtain ⟨S1, S2, rfl, h2, h3, h4⟩ := sink_spec hlt n X S' (y :: Z) x h hs'.1
      exact ⟨S1, S2 ++ [y], by simp, by rw [h2]; simp, h3, fun s hs => by
        rcases List.mem_append.1 hs with hs | hs
        · exact h4 s hs
        · simp at hs; subst hs; exact hxy⟩
    · rename_i hxy
      have hxy : ¬ r x < r y := by simpa using hxy
      exact ⟨S' ++ [y], [], by simp, by simp, fun s hs => by
        rcases List.mem_append.1 hs with hs | hs
        · have := hs'.2 s hs; omega
        · simp at hs; subst hs; omega, by simp⟩
theorem insFrom_spec {lt : α → α → Bool} (hlt : ∀ x y, lt x y = decide (r x < r y)) : ∀ (c : Nat) (X S R Z : List α), R.length = c → Srt r S → ∃ S', insFrom lt X.length c (X.length + S.length) (X ++ S ++ R ++ Z) = X ++ S' ++ Z ∧ Srt r S' ∧ Stab r (S ++ R) S'
  | 0, X, S, R, Z, h, hs => by
    have : R = [] := List.length_eq_zero_iff.1 h
    subst this
    exact ⟨S, by simp [insFrom], hs, by simpa using Stab.refl S⟩
  | c + 1, X, S, x :: R, Z, h, hs => by
    simp at h
    simp only [insFrom]
    obtain ⟨S1, S2, rfl, h2, h3, h4⟩ := sink_spec hlt S.length X S (R ++ Z) x rfl hs
    have e1 : sink lt X.length (X.length + (S1 ++ S2).length - X.length) (X ++ (S1 ++ S2) ++ x :: R ++ Z) = X ++ (S1 ++ x :: S2) ++ R ++ Z := by
      rw [show X.length + (S1 ++ S2).length - X.length = (S1 ++ S2).length by omega]
      simp only [List.append_assoc, List.cons_append] at h2 ⊢
      exact h2
    rw [e1]
    have hs1 := List.pairwise_append.1 hs
    have hsrt : Srt r (S1 ++ x :: S2) := Srt.app hs1.1 (List.pairwise_cons.2 ⟨fun y hy => by have := h4 y hy; omega, hs1.2.1⟩) fun a ha b hb => by
      rcases List.mem_cons.1 hb with rfl | hb
      · exact h3 a ha
      · exact hs1.2.2 a ha b hb
    obtain ⟨S', g1, g2, g3⟩ := insFrom_spec hlt c X (S1 ++ x :: S2) R Z h hsrt
    refine ⟨S', ?_, g2, ?_⟩
    · rw [show X.length + (S1 ++ S2).length + 1 = X.length + (S1 ++ x :: S2).length by simp; omega]
      exact g1
    · refine Stab.trans ?_ g3
      have : Stab r (S1 ++ (S2 ++ [x]) ++ R) (S1 ++ ([x] ++ S2) ++ R) := ((Stab.refl S1).app (Stab.swap fun u hu v hv => by
        simp at hv; subst hv
        have := h4 u hu; omega)).app (Stab.refl R)
      simpa using this
theorem insSort_spec {lt : α → α → Bool} (hlt : ∀ x y, lt x y = decide (r x < r y)) (X S Z : List α) : ∃ S', insSort lt X.length (X.length + S.length) (X ++ S ++ Z) = X ++ S' ++ Z ∧ Srt r S' ∧ Stab r S S' := by
  cases S with
  | nil => exact ⟨[], by simp [insSort, insFrom], List.Pairwise.nil, Stab.refl _⟩
  | cons x R =>
    obtain ⟨S', h1, h2, h3⟩ := insFrom_spec hlt R.length X [x] R Z rfl (List.pairwise_singleton _ _)
    refine ⟨S', ?_, h2, by simpa using h3⟩
    unfold insSort
    rw [show X.length + (x :: R).length - (X.length + 1) = R.length by simp; omega]
    simpa using h1

/-! rotation -/
theorem swR_spec : ∀ (U V X Y Z : List α), U.length = V.length → swR U.length X.length (X.length + U.length + Y.length) (X ++ U ++ Y ++ V ++ Z) = X ++ V ++ Y ++ U ++ Z
  | [], [], X, Y, Z, _ => by simp [swR]
  | u :: U, v :: V, X, Y, Z, h => by
    simp at h
    simp only [List.length_cons, swR]
    have e1 : swapL (X ++ (u :: U) ++ Y ++ (v :: V) ++ Z) X.length (X.length + (U.length + 1) + Y.length) = (X ++ [v]) ++ U ++ (Y ++ [u]) ++ V ++ Z := by
      have := swapL_far X (U ++ Y) (V ++ Z) u v
      simp only [List.append_assoc, List.cons_append, List.length_append, List.nil_append] at this ⊢
      rw [show X.length + (U.length + 1) + Y.length = X.length + (U.length + Y.length) + 1 by omega]
      exact this
    rw [e1]
    have := swR_spec U V (X ++ [v]) (Y ++ [u]) Z h
    simp only [List.length_append, List.length_cons, List.length_nil] at this
    rw [show X.length + (U.length + 1) + Y.length + 1 = X.length + (0 + 1) + U.length + (Y.length + (0 + 1)) by omega, show X.length + 1 = X.length + (0 + 1) by omega, this]
    simp
  | [], _ :: _, _, _, _, h => by simp at h
  | _ :: _, [], _, _, _, h => by simp at h
theorem rot_spec : ∀ (f : Nat) (X U V Z : List α), U.length + V.length ≤ f → 0 < U.length → 0 < V.length → rot (X.length + U.length) f U.length V.length (X ++ U ++ V ++ Z) = X ++ V ++ U ++ Z
  | 0, X, U, V, Z, h, h1, h2 => by omega
  | f + 1, X, U, V, Z, h, h1, h2 => by
    simp only [rot]
    split
    · rename_i e
      have := swR_spec U V X [] Z e
      simp only [List.append_nil, List.length_nil, Nat.add_zero] at this
      rw [show X.length + U.length - U.length = X.length by omega]
      exact this
    · rename_i hne
      split
      · rename_i hgt
        obtain ⟨U1, U2, rfl, hU1⟩ : ∃ U1 U2, U = U1 ++ U2 ∧ U1.length = V.length := ⟨U.take V.length, U.drop V.length, (List.take_append_drop _ _).symm, by simp; omega⟩
        have e1 := swR_spec U1 V X U2 Z hU1
        have hl : X.length + (U1 ++ U2).length - (U1 ++ U2).length = X.length := by omega
        rw [hl, show swR V.length X.length (X.length + (U1 ++ U2).length) (X ++ (U1 ++ U2) ++ V ++ Z) = X ++ V ++ U2 ++ U1 ++ Z by
          rw [← hU1, List.length_append, ← Nat.add_assoc]
          simpa using e1]
        simp only [List.length_append] at hgt h
        have := rot_spec f (X ++ V) U2 U1 Z (by omega) (by omega) (by omega)
        simp only [List.length_append] at this ⊢
        rw [show U1.length + U2.length - V.length = U2.length by omega, show X.length + (U1.length + U2.length) = X.length + V.length + U2.length by omega, show V.length = U1.length from hU1.symm] at *
        rw [this]
        simp
      · rename_i hgt
        obtain ⟨V1, V2, rfl, hV2⟩ : ∃ V1 V2, V = V1 ++ V2 ∧ V2.length = U.length := ⟨V.take (V.length - U.length), V.drop (V.length - U.length), (List.take_append_drop _ _).symm, by simp; omega⟩
        have e1 := swR_spec U V2 X V1 Z hV2.symm
        simp only [List.length_append] at hgt h hne h2 ⊢
        have hl : X.length + U.length - U.length = X.length := by omega
        rw [hl, show X.length + U.length + (V1.length + V2.length) - U.length = X.length + U.length + V1.length by omega, show swR U.length X.length (X.length + U.length + V1.length) (X ++ U ++ (V1 ++ V2) ++ Z) = X ++ V2 ++ V1 ++ U ++ Z by simpa using e1]
        have := rot_spec f X V2 V1 (U ++ Z) (by omega) (by omega) (by omega)
        rw [show V1.length + V2.length - U.length = V1.length by omega, ← hV2]
        simp only [List.append_assoc] at this ⊢
        rw [this]

/-! search and shifts -/
theorem bs_spec (p : Nat → Bool) (i0 j0 : Nat) : ∀ (f i j : Nat), j - i ≤ f → i ≤ j → i0 ≤ i → j ≤ j0 → (i = i0 ∨ p (i - 1) = true) → (j = j0 ∨ p j = false) → i0 ≤ bs p f i j ∧ bs p f i j ≤ j0 ∧ (bs p f i j = i0 ∨ p (bs p f i j - 1) = true) ∧ (bs p f i j = j0 ∨ p (bs p f i j) = false)
  | 0, i, j, h, hij, h1, h2, h3, h4 => by
    have : i = j := by omega
    subst this
    simp only [bs]
    exact ⟨h1, h2, h3, h4⟩
  | f + 1, i, j, h, hij, h1, h2, h3, h4 => by
    simp only [bs]
    split
    · rename_i hlt
      have hm : i ≤ (i + j) / 2 ∧ (i + j) / 2 < j := by omega
      split
      · rename_i hp
        exact bs_spec p i0 j0 f _ j (by omega) (by omega) (by omega) h2 (.inr (by simpa using hp)) h4
      · rename_i hp
        exact bs_spec p i0 j0 f i _ (by omega) (by omega) h1 (by omega) h3 (.inr (by simpa using hp))
    · have : i = j := by omega
      subst this
      exact ⟨h1, h2, h3, h4⟩
theorem shUp_spec : ∀ (V X Z : List α) (u : α), shUp V.length X.length (X ++ u :: (V ++ Z)) = X ++ V ++ u :: Z
  | [], X, Z, u => by simp [shUp]
  | v :: V, X, Z, u => by
    simp only [List.length_cons, shUp, List.cons_append]
    rw [swapL_adj]
    have := shUp_spec V (X ++ [v]) Z u
    simp only [List.length_append, List.length_cons, List.length_nil, List.append_assoc, List.cons_append, List.nil_append] at this ⊢
    exact this
theorem shDn_spec : ∀ (n : Nat) (U X Z : List α) (v : α), U.length = n → shDn n (X.length + n) (X ++ U ++ v :: Z) = X ++ v :: U ++ Z
  | 0, U, X, Z, v, h => by
    have : U = [] := List.length_eq_zero_iff.1 h
    subst this
    simp [shDn]
  | n + 1, U, X, Z, v, h => by
    obtain ⟨U', y, rfl⟩ : ∃ S' y, U = S' ++ [y] := ⟨U.dropLast, U.getLast (by intro e; subst e; simp at h), (List.dropLast_concat_getLast _).symm⟩
    simp at h
    simp only [shDn]
    have e1 : swapL (X ++ (U' ++ [y]) ++ v :: Z) (X.length + (n + 1)) (X.length + (n + 1) - 1) = X ++ U' ++ v :: (y :: Z) := by
      have := swapL_adj' (X ++ U') Z y v
      rw [show X.length + (n + 1) - 1 = (X ++ U').length by simp; omega, show X.length + (n + 1) = (X ++ U').length + 1 by simp; omega]
      simpa using this
    rw [e1, show X.length + (n + 1) - 1 = X.length + n by omega, shDn_spec n U' X (y :: Z) v h]
    simp
end Go.PS
set_option linter.unusedVariables false
set_option linter.unusedSimpArgs false
namespace Go.PS
variable {α : Type} [Inhabited α] {r : α → Int}

theorem getD_app (X Y : List α) (i : Nat) (h : X.length ≤ i) : (X ++ Y).getD i default = Y.getD (i - X.length) default := by
  simp only [List.getD_eq_getElem?_getD]
  rw [List.getElem?_append_right h]
theorem getD_lt (X Y : List α) (i : Nat) (h : i < X.length) : (X ++ Y).getD i default = X.getD i default := by
  simp only [List.getD_eq_getElem?_getD]
  rw [List.getElem?_append_left h]
theorem srt_le {L : List α} (h : Srt r L) {i j : Nat} (hij : i ≤ j) (hj : j < L.length) : r (L.getD i default) ≤ r (L.getD j default) := by
  have h1 : L.getD i default = L[i]'(by omega) := by simp [List.getD_eq_getElem?_getD, show i < L.length by omega]
  have h2 : L.getD j default = L[j] := by simp [List.getD_eq_getElem?_getD, hj]
  rw [h1, h2]
  rcases Nat.lt_or_eq_of_le hij with h' | h'
  · exact List.pairwise_iff_getElem.1 h i j (by omega) hj h'
  · subst h'; exact Int.le_refl _
theorem mem_getD {L : List α} {x : α} (h : x ∈ L) : ∃ i, i < L.length ∧ L.getD i default = x := by
  obtain ⟨i, hi, rfl⟩ := List.getElem_of_mem h
  exact ⟨i, hi, by simp [List.getD_eq_getElem?_getD, hi]⟩

/-- where the rotation is -/
theorem symS_spec {lt : α → α → Bool} (hlt : ∀ x y, lt x y = decide (r x < r y)) (X U V Z : List α) (hU : 0 < U.length) (hV : 0 < V.length) (sU : Srt r U) (sV : Srt r V) :
    ∃ U1 U2 V1 V2, U = U1 ++ U2 ∧ V = V1 ++ V2 ∧ symS lt X.length (X.length + U.length) (X.length + U.length + V.length) (X ++ U ++ V ++ Z) = X.length + U1.length ∧
      U1.length + V1.length = (X.length + (X.length + U.length + V.length)) / 2 - X.length ∧ (∀ u ∈ U1, ∀ v ∈ V2, r u ≤ r v) ∧ (∀ v ∈ V1, ∀ u ∈ U2, r v < r u) := by
  have hmid : ∃ mid, mid = (X.length + (X.length + U.length + V.length)) / 2 := ⟨_, rfl⟩
  obtain ⟨mid, hmid⟩ := hmid
  have hm := X.length + U.length
  obtain ⟨m, hm⟩ : ∃ m, m = X.length + U.length := ⟨_, rfl⟩
  obtain ⟨b, hb⟩ : ∃ b, b = X.length + U.length + V.length := ⟨_, rfl⟩
  have hb2 := bs_spec (fun c => !lt ((X ++ U ++ V ++ Z).getD (mid + m - 1 - c) default) ((X ++ U ++ V ++ Z).getD c default)) (if m > mid then mid + m - b else X.length) (if m > mid then mid else m) (b - X.length) (if m > mid then mid + m - b else X.length) (if m > mid then mid else m)
    (by split <;> omega) (by split <;> omega) (Nat.le_refl _) (Nat.le_refl _) (.inl rfl) (.inl rfl)
  have hs : symS lt X.length (X.length + U.length) (X.length + U.length + V.length) (X ++ U ++ V ++ Z) = bs (fun c => !lt ((X ++ U ++ V ++ Z).getD (mid + m - 1 - c) default) ((X ++ U ++ V ++ Z).getD c default)) (b - X.length) (if m > mid then mid + m - b else X.length) (if m > mid then mid else m) := by
    rw [hmid, hm, hb]; rfl
  rw [hs]
  generalize bs _ (b - X.length) _ _ = s at hb2
  obtain ⟨b1, b2, b3, b4⟩ := hb2
  have hsm : X.length ≤ s ∧ s ≤ m ∧ m ≤ mid + m - s ∧ mid + m - s ≤ b := by
    by_cases h : m > mid
    · rw [if_pos h] at b1 b2; omega
    · rw [if_neg h] at b1 b2; omega
  have atU : ∀ i, X.length ≤ i → i < m → (X ++ U ++ V ++ Z).getD i default = U.getD (i - X.length) default := fun i h1 h2 => by
    rw [List.append_assoc, List.append_assoc, getD_app _ _ _ h1, getD_lt _ _ _ (by omega)]
  have atV : ∀ i, m ≤ i → i < b → (X ++ U ++ V ++ Z).getD i default = V.getD (i - m) default := fun i h1 h2 => by
    rw [List.append_assoc, getD_app _ _ _ (by simp; omega), getD_lt _ _ _ (by simp; omega)]
    congr 1; simp; omega
  refine ⟨U.take (s - X.length), U.drop (s - X.length), V.take (mid + m - s - m), V.drop (mid + m - s - m), (List.take_append_drop _ _).symm, (List.take_append_drop _ _).symm, by simp; omega, by simp; omega, fun u hu v hv => ?_, fun v hv u hu => ?_⟩
  · obtain ⟨i, hi, rfl⟩ := mem_getD hu
    obtain ⟨j, hj, rfl⟩ := mem_getD hv
    simp only [List.length_take, List.length_drop] at hi hj
    have hs0 : ¬ (s = if m > mid then mid + m - b else X.length) := by
      by_cases h : m > mid
      · rw [if_pos h]; omega
      · rw [if_neg h]; omega
    have h3 := b3.resolve_left hs0
    simp only [hlt, Bool.not_eq_true', decide_eq_false_iff_not, Int.not_lt] at h3
    rw [show mid + m - 1 - (s - 1) = mid + m - s by omega, atV _ hsm.2.2.1 (by omega), atU _ (by omega) (by omega)] at h3
    have e1 : (U.take (s - X.length)).getD i default = U.getD i default := by
      simp only [List.getD_eq_getElem?_getD, List.getElem?_take]; rw [if_pos (by omega)]
    have e2 : (V.drop (mid + m - s - m)).getD j default = V.getD (mid + m - s - m + j) default := by
      simp only [List.getD_eq_getElem?_getD, List.getElem?_drop]
    rw [e1, e2]
    have q1 := srt_le sU (show i ≤ s - 1 - X.length by omega) (by omega)
    have q2 := srt_le sV (show mid + m - s - m ≤ mid + m - s - m + j by omega) (by omega)
    omega
  · obtain ⟨i, hi, rfl⟩ := mem_getD hu
    obtain ⟨j, hj, rfl⟩ := mem_getD hv
    simp only [List.length_take, List.length_drop] at hi hj
    have hs0 : ¬ (s = if m > mid then mid else m) := by
      by_cases h : m > mid
      · rw [if_pos h]; omega
      · rw [if_neg h]; omega
    have h4 := b4.resolve_left hs0
    simp only [hlt, Bool.not_eq_false', decide_eq_true_eq] at h4
    rw [show mid + m - 1 - s = mid + m - s - 1 by omega, atV _ (by omega) (by omega), atU _ (by omega) (by omega)] at h4
    have e1 : (V.take (mid + m - s - m)).getD j default = V.getD j default := by
      simp only [List.getD_eq_getElem?_getD, List.getElem?_take]; rw [if_pos (by omega)]
    have e2 : (U.drop (s - X.length)).getD i default = U.getD (s - X.length + i) default := by
      simp only [List.getD_eq_getElem?_getD, List.getElem?_drop]
    rw [e1, e2]
    have q1 := srt_le sV (show j ≤ mid + m - s - 1 - m by omega) (by omega)
    have q2 := srt_le sU (show s - X.length ≤ s - X.length + i by omega) (by omega)
    omega

theorem symM_spec {lt : α → α → Bool} (hlt : ∀ x y, lt x y = decide (r x < r y)) : ∀ (f : Nat) (X U V Z : List α), U.length + V.length ≤ f → 0 < U.length → 0 < V.length → Srt r U → Srt r V →
    ∃ S, symM lt f X.length (X.length + U.length) (X.length + U.length + V.length) (X ++ U ++ V ++ Z) = X ++ S ++ Z ∧ Srt r S ∧ Stab r (U ++ V) S
  | 0, X, U, V, Z, h, h1, h2, _, _ => by omega
  | f + 1, X, U, V, Z, h, h1, h2, sU, sV => by
    have atU : ∀ i, X.length ≤ i → i < X.length + U.length → (X ++ U ++ V ++ Z).getD i default = U.getD (i - X.length) default := fun i h1 h2 => by
      rw [List.append_assoc, List.append_assoc, getD_app _ _ _ h1, getD_lt _ _ _ (by omega)]
    have atV : ∀ i, X.length + U.length ≤ i → i < X.length + U.length + V.length → (X ++ U ++ V ++ Z).getD i default = V.getD (i - (X.length + U.length)) default := fun i h1 h2 => by
      rw [List.append_assoc, getD_app _ _ _ (by simp; omega), getD_lt _ _ _ (by simp; omega)]
      congr 1; simp
    simp only [symM]
    split
    · rename_i hm
      obtain ⟨u, rfl⟩ : ∃ u, U = [u] := List.length_eq_one_iff.1 (by omega)
      have hb := bs_spec (fun h => lt ((X ++ [u] ++ V ++ Z).getD h default) ((X ++ [u] ++ V ++ Z).getD X.length default)) (X.length + 1) (X.length + 1 + V.length) (X.length + 1 + V.length - X.length) (X.length + 1) (X.length + 1 + V.length) (by omega) (by omega) (Nat.le_refl _) (Nat.le_refl _) (.inl rfl) (.inl rfl)
      simp only [List.length_cons, List.length_nil, Nat.zero_add] at hb ⊢ atU atV
      generalize bs _ (X.length + 1 + V.length - X.length) (X.length + 1) (X.length + 1 + V.length) = s at hb
      obtain ⟨b1, b2, b3, b4⟩ := hb
      have hau := atU X.length (Nat.le_refl _) (by omega)
      simp only [Nat.sub_self] at hau
      rw [hau] at b3 b4
      simp only [hlt] at b3 b4
      obtain ⟨V1, V2, rfl, hV1⟩ : ∃ V1 V2, V = V1 ++ V2 ∧ V1.length = s - (X.length + 1) := ⟨V.take (s - (X.length + 1)), V.drop (s - (X.length + 1)), (List.take_append_drop _ _).symm, by simp; omega⟩
      simp only [List.length_append] at b2 b4 atV
      have hu : ([u] : List α).getD 0 default = u := rfl
      rw [hu] at b3 b4
      have k1 : ∀ v ∈ V1, r v < r u := fun v hv => by
        obtain ⟨j, hj, rfl⟩ := mem_getD hv
        have h3 := b3.resolve_left (by omega)
        rw [atV _ (by omega) (by omega)] at h3
        simp only [decide_eq_true_eq] at h3
        have := srt_le sV (show j ≤ s - 1 - (X.length + 1) by omega) (by simp; omega)
        rw [getD_lt V1 V2 j hj] at this
        omega
      have k2 : ∀ v ∈ V2, r u ≤ r v := fun v hv => by
        obtain ⟨j, hj, rfl⟩ := mem_getD hv
        have h4 := b4.resolve_left (by omega)
        rw [atV _ (by omega) (by omega)] at h4
        simp only [decide_eq_false_iff_not, Int.not_lt] at h4
        have := srt_le sV (show s - (X.length + 1) ≤ V1.length + j by omega) (by simp; omega)
        rw [getD_app V1 V2 (V1.length + j) (by omega), getD_app V1 V2 _ (by omega), Nat.add_sub_cancel_left] at this
        rw [getD_app V1 V2 _ (by omega)] at h4
        omega
      refine ⟨V1 ++ u :: V2, ?_, ?_, ?_⟩
      · have := shUp_spec V1 X (V2 ++ Z) u
        rw [show s - 1 - X.length = V1.length by omega]
        simpa using this
      · have hs := List.pairwise_append.1 sV
        exact Srt.app hs.1 (List.pairwise_cons.2 ⟨k2, hs.2.1⟩) fun a ha b hb => by
          rcases List.mem_cons.1 hb with rfl | hb
          · have := k1 a ha; omega
          · exact hs.2.2 a ha b hb
      · have : Stab r (([u] ++ V1) ++ V2) ((V1 ++ [u]) ++ V2) := (Stab.swap fun x hx v hv => by
          simp at hx; subst hx
          have := k1 v hv; omega).app (Stab.refl V2)
        simpa using this
    · rename_i hm
      split
      · rename_i hm2
        obtain ⟨v, rfl⟩ : ∃ u, V = [u] := List.length_eq_one_iff.1 (by omega)
        have hb := bs_spec (fun h => !lt ((X ++ U ++ [v] ++ Z).getD (X.length + U.length) default) ((X ++ U ++ [v] ++ Z).getD h default)) X.length (X.length + U.length) (X.length + U.length + 1 - X.length) X.length (X.length + U.length) (by omega) (by omega) (Nat.le_refl _) (Nat.le_refl _) (.inl rfl) (.inl rfl)
        simp only [List.length_cons, List.length_nil, Nat.zero_add] at hb ⊢ atV
        generalize bs _ (X.length + U.length + 1 - X.length) X.length (X.length + U.length) = s at hb
        obtain ⟨b1, b2, b3, b4⟩ := hb
        have hav := atV (X.length + U.length) (Nat.le_refl _) (by omega)
        simp only [Nat.sub_self] at hav
        rw [hav] at b3 b4
        simp only [hlt] at b3 b4
        obtain ⟨U1, U2, rfl, hU1⟩ : ∃ V1 V2, U = V1 ++ V2 ∧ V1.length = s - X.length := ⟨U.take (s - X.length), U.drop (s - X.length), (List.take_append_drop _ _).symm, by simp; omega⟩
        simp only [List.length_append] at b2 b4 atU
        have hv : ([v] : List α).getD 0 default = v := rfl
        rw [hv] at b3 b4
        have k1 : ∀ u ∈ U1, r u ≤ r v := fun u hu => by
          obtain ⟨j, hj, rfl⟩ := mem_getD hu
          have h3 := b3.resolve_left (by omega)
          rw [atU _ (by omega) (by omega)] at h3
          simp only [Bool.not_eq_true', decide_eq_false_iff_not, Int.not_lt] at h3
          have := srt_le sU (show j ≤ s - 1 - X.length by omega) (by simp; omega)
          rw [getD_lt U1 U2 j hj] at this
          omega
        have k2 : ∀ u ∈ U2, r v < r u := fun u hu => by
          obtain ⟨j, hj, rfl⟩ := mem_getD hu
          have h4 := b4.resolve_left (by omega)
          rw [atU _ (by omega) (by omega)] at h4
          simp only [Bool.not_eq_false', decide_eq_true_eq] at h4
          have := srt_le sU (show s - X.length ≤ U1.length + j by omega) (by simp; omega)
          rw [getD_app U1 U2 (U1.length + j) (by omega), getD_app U1 U2 _ (by omega), Nat.add_sub_cancel_left] at this
          rw [getD_app U1 U2 _ (by omega)] at h4
          omega
        refine ⟨U1 ++ v :: U2, ?_, ?_, ?_⟩
        · have := shDn_spec U2.length U2 (X ++ U1) Z v rfl
          simp only [List.length_append] at this ⊢
          rw [show X.length + (U1.length + U2.length) - s = U2.length by omega]
          rw [show X.length + (U1.length + U2.length) = X.length + U1.length + U2.length by omega]
          simpa using this
        · have hs := List.pairwise_append.1 sU
          exact Srt.app hs.1 (List.pairwise_cons.2 ⟨fun b hb => by have := k2 b hb; omega, hs.2.1⟩) fun a ha b hb => by
            rcases List.mem_cons.1 hb with rfl | hb
            · exact k1 a ha
            · exact hs.2.2 a ha b hb
        · have : Stab r (U1 ++ (U2 ++ [v])) (U1 ++ ([v] ++ U2)) := (Stab.refl U1).app (Stab.swap fun x hx y hy => by
            simp at hy; subst hy
            have := k2 x hx; omega)
          simpa using this
      · rename_i hm2
        obtain ⟨U1, U2, V1, V2, rfl, rfl, hs, hl, k1, k2⟩ := symS_spec hlt X U V Z h1 h2 sU sV
        rw [hs]
        simp only [List.length_append] at hl h h1 h2 hm hm2 ⊢
        obtain ⟨mid, hmid⟩ : ∃ mid, mid = (X.length + (X.length + (U1.length + U2.length) + (V1.length + V2.length))) / 2 := ⟨_, rfl⟩
        rw [← hmid] at hl ⊢
        have hmd : mid = X.length + U1.length + V1.length := by omega
        have he : mid + (X.length + (U1.length + U2.length)) - (X.length + U1.length) = X.length + U1.length + U2.length + V1.length := by omega
        rw [he]
        have hs1 := List.pairwise_append.1 sU
        have hs2 := List.pairwise_append.1 sV
        -- the rotation
        have r1 : (if X.length + U1.length < X.length + (U1.length + U2.length) ∧ X.length + (U1.length + U2.length) < X.length + U1.length + U2.length + V1.length then rot (X.length + (U1.length + U2.length)) (X.length + U1.length + U2.length + V1.length - (X.length + U1.length)) (X.length + (U1.length + U2.length) - (X.length + U1.length)) (X.length + U1.length + U2.length + V1.length - (X.length + (U1.length + U2.length))) (X ++ (U1 ++ U2) ++ (V1 ++ V2) ++ Z) else X ++ (U1 ++ U2) ++ (V1 ++ V2) ++ Z) = X ++ U1 ++ V1 ++ (U2 ++ V2 ++ Z) := by
          split
          · rename_i hc
            have := rot_spec (U2.length + V1.length) (X ++ U1) U2 V1 (V2 ++ Z) (Nat.le_refl _) (by omega) (by omega)
            simp only [List.length_append] at this
            rw [show X.length + U1.length + U2.length + V1.length - (X.length + U1.length) = U2.length + V1.length by omega, show X.length + (U1.length + U2.length) - (X.length + U1.length) = U2.length by omega, show X.length + U1.length + U2.length + V1.length - (X.length + (U1.length + U2.length)) = V1.length by omega, show X.length + (U1.length + U2.length) = X.length + U1.length + U2.length by omega]
            simpa using this
          · rename_i hc
            rcases Nat.eq_zero_or_pos U2.length with h0 | h0
            · have : U2 = [] := List.length_eq_zero_iff.1 h0
              subst this; simp
            · have : V1 = [] := List.length_eq_zero_iff.1 (by omega)
              subst this; simp
        rw [r1]
        -- the left part
        obtain ⟨S1, q1, q2, q3⟩ : ∃ S1, (if X.length < X.length + U1.length ∧ X.length + U1.length < mid then symM lt f X.length (X.length + U1.length) mid (X ++ U1 ++ V1 ++ (U2 ++ V2 ++ Z)) else X ++ U1 ++ V1 ++ (U2 ++ V2 ++ Z)) = X ++ S1 ++ (U2 ++ V2 ++ Z) ∧ Srt r S1 ∧ Stab r (U1 ++ V1) S1 := by
          split
          · rename_i hc
            obtain ⟨S1, g1, g2, g3⟩ := symM_spec hlt f X U1 V1 (U2 ++ V2 ++ Z) (by omega) (by omega) (by omega) hs1.1 hs2.1
            exact ⟨S1, by rw [hmd]; exact g1, g2, g3⟩
          · rename_i hc
            rcases Nat.eq_zero_or_pos U1.length with h0 | h0
            · have : U1 = [] := List.length_eq_zero_iff.1 h0
              subst this; exact ⟨V1, by simp, hs2.1, by simpa using Stab.refl V1⟩
            · have : V1 = [] := List.length_eq_zero_iff.1 (by omega)
              subst this; exact ⟨U1, by simp, hs1.1, by simpa using Stab.refl U1⟩
        rw [q1]
        have hl1 : S1.length = U1.length + V1.length := by rw [q3.len]; simp
        -- the right part
        obtain ⟨S2, p1, p2, p3⟩ : ∃ S2, (if mid < X.length + U1.length + U2.length + V1.length ∧ X.length + U1.length + U2.length + V1.length < X.length + (U1.length + U2.length) + (V1.length + V2.length) then symM lt f mid (X.length + U1.length + U2.length + V1.length) (X.length + (U1.length + U2.length) + (V1.length + V2.length)) (X ++ S1 ++ (U2 ++ V2 ++ Z)) else X ++ S1 ++ (U2 ++ V2 ++ Z)) = X ++ S1 ++ S2 ++ Z ∧ Srt r S2 ∧ Stab r (U2 ++ V2) S2 := by
          split
          · rename_i hc
            obtain ⟨S2, g1, g2, g3⟩ := symM_spec hlt f (X ++ S1) U2 V2 Z (by omega) (by omega) (by omega) hs1.2.1 hs2.2.1
            refine ⟨S2, ?_, g2, g3⟩
            simp only [List.length_append] at g1
            rw [show mid = X.length + S1.length by omega, show X.length + U1.length + U2.length + V1.length = X.length + S1.length + U2.length by omega, show X.length + (U1.length + U2.length) + (V1.length + V2.length) = X.length + S1.length + U2.length + V2.length by omega]
            simpa using g1
          · rename_i hc
            rcases Nat.eq_zero_or_pos U2.length with h0 | h0
            · have : U2 = [] := List.length_eq_zero_iff.1 h0
              subst this; exact ⟨V2, by simp, hs2.2.1, by simpa using Stab.refl V2⟩
            · have : V2 = [] := List.length_eq_zero_iff.1 (by omega)
              subst this; exact ⟨U2, by simp, hs1.2.1, by simpa using Stab.refl U2⟩
        rw [p1]
        refine ⟨S1 ++ S2, by simp, Srt.app q2 p2 fun a ha b hb => ?_, ?_⟩
        · have ha := (q3.mem a).1 ha
          have hb := (p3.mem b).1 hb
          rcases List.mem_append.1 ha with ha | ha <;> rcases List.mem_append.1 hb with hb | hb
          · exact hs1.2.2 a ha b hb
          · exact k1 a ha b hb
          · have := k2 a ha b hb; omega
          · exact hs2.2.2 a ha b hb
        · have : Stab r (U1 ++ (U2 ++ V1) ++ V2) (U1 ++ (V1 ++ U2) ++ V2) := ((Stab.refl U1).app (Stab.swap fun u hu v hv => by have := k2 v hv u hu; omega)).app (Stab.refl V2)
          have h3 : Stab r (U1 ++ V1 ++ (U2 ++ V2)) (S1 ++ S2) := q3.app p3
          refine Stab.trans ?_ h3
          simpa using this

/-! the whole -/
def Blk (r : α → Int) (k : Nat) (L : List α) : Prop := ∀ i, Srt r ((L.drop (i * k)).take k)
theorem insBlocks_spec {lt : α → α → Bool} (hlt : ∀ x y, lt x y = decide (r x < r y)) : ∀ (f : Nat) (X R : List α), R.length ≤ f → ∃ R', insBlocks lt (X.length + R.length) f X.length (X ++ R) = X ++ R' ∧ Blk r 20 R' ∧ Stab r R R'
  | f, X, R, h => by
    have last : R.length < 20 → ∃ R', insSort lt X.length (X.length + R.length) (X ++ R) = X ++ R' ∧ Blk r 20 R' ∧ Stab r R R' := fun hl => by
      obtain ⟨S, g1, g2, g3⟩ := insSort_spec hlt X R []
      simp only [List.append_nil] at g1
      exact ⟨S, g1, fun i => srt_take (srt_drop g2 _) _, g3⟩
    match f with
    | 0 => exact last (by omega)
    | f + 1 =>
      simp only [insBlocks]
      split
      · rename_i h20
        obtain ⟨S, R2, rfl, hS⟩ : ∃ S R2, R = S ++ R2 ∧ S.length = 20 := ⟨R.take 20, R.drop 20, (List.take_append_drop _ _).symm, by simp; omega⟩
        obtain ⟨S', g1, g2, g3⟩ := insSort_spec hlt X S R2
        have hS' : S'.length = 20 := by rw [g3.len]; exact hS
        rw [show X.length + 20 = X.length + S.length by omega, ← List.append_assoc, g1]
        simp only [List.length_append] at h h20 ⊢
        obtain ⟨R2', p1, p2, p3⟩ := insBlocks_spec hlt f (X ++ S') R2 (by omega)
        simp only [List.length_append] at p1
        refine ⟨S' ++ R2', ?_, fun i => ?_, g3.app p3⟩
        · rw [show X.length + (S.length + R2.length) = X.length + S'.length + R2.length by omega, show X.length + S.length = X.length + S'.length by omega, p1]; simp
        · cases i with
          | zero => simp only [Nat.zero_mul, List.drop_zero]; rw [← hS', List.take_left]; exact g2
          | succ i =>
            rw [show (i + 1) * 20 = S'.length + i * 20 by omega, List.drop_append, List.drop_eq_nil_of_le (by omega), Nat.add_sub_cancel_left, List.nil_append]
            exact p2 i
      · rename_i h20
        exact last (by omega)
theorem mergePass_spec {lt : α → α → Bool} (hlt : ∀ x y, lt x y = decide (r x < r y)) (k : Nat) (hk : 0 < k) : ∀ (f : Nat) (X R : List α), R.length ≤ f → Blk r k R → ∃ R', mergePass lt k (X.length + R.length) f X.length (X ++ R) = X ++ R' ∧ Blk r (2 * k) R' ∧ Stab r R R'
  | f, X, R, h, hb => by
    have last : R.length < 2 * k → ∃ R', (if X.length + k < X.length + R.length then symM lt (X.length + R.length) X.length (X.length + k) (X.length + R.length) (X ++ R) else X ++ R) = X ++ R' ∧ Blk r (2 * k) R' ∧ Stab r R R' := fun hl => by
      split
      · rename_i hc
        obtain ⟨U, V, rfl, hU⟩ : ∃ S R2, R = S ++ R2 ∧ S.length = k := ⟨R.take k, R.drop k, (List.take_append_drop _ _).symm, by simp; omega⟩
        simp only [List.length_append] at hl hc ⊢
        have b0 := hb 0
        have b1 := hb 1
        simp only [Nat.zero_mul, List.drop_zero, Nat.one_mul] at b0 b1
        rw [← hU, List.take_left] at b0
        rw [← hU, List.drop_left, List.take_of_length_le (by omega)] at b1
        obtain ⟨S, g1, g2, g3⟩ := symM_spec hlt (X.length + (U.length + V.length)) X U V [] (by omega) (by omega) (by omega) b0 b1
        simp only [List.append_nil] at g1
        refine ⟨S, ?_, fun i => srt_take (srt_drop g2 _) _, g3⟩
        rw [← hU, show X.length + (U.length + V.length) = X.length + U.length + V.length by omega] at *
        rw [← List.append_assoc]
        exact g1
      · rename_i hc
        have b0 := hb 0
        simp only [Nat.zero_mul, List.drop_zero] at b0
        rw [List.take_of_length_le (by omega)] at b0
        exact ⟨R, rfl, fun i => srt_take (srt_drop b0 _) _, Stab.refl _⟩
    match f with
    | 0 => exact last (by omega)
    | f + 1 =>
      simp only [mergePass]
      split
      · rename_i h2
        obtain ⟨U, V, R2, rfl, hU, hV⟩ : ∃ U V R2, R = U ++ V ++ R2 ∧ U.length = k ∧ V.length = k := ⟨R.take k, (R.drop k).take k, (R.drop k).drop k, by rw [List.append_assoc, List.take_append_drop, List.take_append_drop], by simp; omega, by simp; omega⟩
        simp only [List.length_append] at h h2 ⊢
        have b0 := hb 0
        have b1 := hb 1
        simp only [Nat.zero_mul, List.drop_zero, Nat.one_mul] at b0 b1
        rw [List.append_assoc, ← hU, List.take_left] at b0
        rw [List.append_assoc, ← hU, List.drop_left, show U.length = V.length by omega, List.take_left] at b1
        obtain ⟨S, g1, g2, g3⟩ := symM_spec hlt (X.length + (U.length + V.length + R2.length)) X U V R2 (by omega) (by omega) (by omega) b0 b1
        have hS : S.length = 2 * k := by rw [g3.len]; simp; omega
        have hb2 : Blk r k R2 := fun i => by
          have := hb (i + 2)
          rw [show (i + 2) * k = (U ++ V).length + i * k by simp [hU, hV, Nat.add_mul]; omega, List.drop_append, List.drop_eq_nil_of_le (by simp), List.nil_append] at this
          simpa using this
        obtain ⟨R2', p1, p2, p3⟩ := mergePass_spec hlt k hk f (X ++ S) R2 (by omega) hb2
        simp only [List.length_append] at p1
        refine ⟨S ++ R2', ?_, fun i => ?_, g3.app p3⟩
        · rw [show X.length + k = X.length + U.length by omega, show X.length + 2 * k = X.length + U.length + V.length by omega]
          rw [show X ++ (U ++ V ++ R2) = X ++ U ++ V ++ R2 by simp, g1]
          rw [show X.length + (U.length + V.length + R2.length) = X.length + S.length + R2.length by omega, show X.length + U.length + V.length = X.length + S.length by omega, p1]
          simp
        · cases i with
          | zero => simp only [Nat.zero_mul, List.drop_zero]; rw [← hS, List.take_left]; exact g2
          | succ i =>
            rw [show (i + 1) * (2 * k) = S.length + i * (2 * k) by rw [hS, Nat.add_mul]; omega, List.drop_append, List.drop_eq_nil_of_le (by omega), Nat.add_sub_cancel_left, List.nil_append]
            exact p2 i
      · rename_i h2
        exact last (by omega)
theorem mergeAll_spec {lt : α → α → Bool} (hlt : ∀ x y, lt x y = decide (r x < r y)) : ∀ (f k : Nat) (L : List α), 0 < k → L.length - k ≤ f → Blk r k L → Srt r (mergeAll lt L.length f k L) ∧ Stab r L (mergeAll lt L.length f k L)
  | f, k, L, hk, h, hb => by
    have fin : L.length ≤ k → Srt r L := fun hl => by
      have := hb 0
      simp only [Nat.zero_mul, List.drop_zero] at this
      rwa [List.take_of_length_le hl] at this
    match f with
    | 0 => exact ⟨fin (by omega), Stab.refl _⟩
    | f + 1 =>
      simp only [mergeAll]
      split
      · rename_i hlt2
        obtain ⟨R, g1, g2, g3⟩ := mergePass_spec hlt k hk L.length [] L (Nat.le_refl _) hb
        simp only [List.length_nil, Nat.zero_add, List.nil_append] at g1
        rw [g1]
        have hl := g3.len
        have := mergeAll_spec hlt f (2 * k) R (by omega) (by omega) g2
        rw [hl] at this
        exact ⟨this.1, g3.trans this.2⟩
      · rename_i hlt2
        exact ⟨fin (by omega), Stab.refl _⟩
/-- Go's stable sort sorts, and is stable. -/
theorem stable_spec {lt : α → α → Bool} (hlt : ∀ x y, lt x y = decide (r x < r y)) (L : List α) : Srt r (stable lt L) ∧ Stab r L (stable lt L) := by
  obtain ⟨R, g1, g2, g3⟩ := insBlocks_spec hlt L.length [] L (Nat.le_refl _)
  simp only [List.length_nil, Nat.zero_add, List.nil_append] at g1
  unfold stable
  rw [g1]
  have := mergeAll_spec hlt L.length 20 R (by omega) (by rw [g3.len]; omega) g2
  rw [g3.len] at this
  exact ⟨this.1, g3.trans this.2⟩
end Go.PS
