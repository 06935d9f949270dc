/- A walk by symbols over the given program, a part of it: lemmas alone; what is claimed stands in the last text. No conditions of its own. -/
import Derived.Test.YtneddobmlcbabaaWaH
set_option linter.unusedVariables false
set_option linter.unusedSimpArgs false
namespace Go.Proofs.Ytneddobmlcbabaa
open Go.SE
open Go.RowKit
set_option maxRecDepth 100000
set_option maxHeartbeats 4000000

/-- what Place hands over, if it may be -/
def slotsV (pv : PlaceT) (L : LookD) (s : ShapeD) (n : Int) : List FreeD := match pv L.view.l s n with
  | .ok l => l
  | .error _ => []
def tryV (pv : PlaceT) (sf : SafeT) (L : LookD) (j : JobD) (u n : Int) : Bool := safeV sf L j.id j.queue u (slotsV pv L j.sh n)
def fillFrom (pv : PlaceT) (sf : SafeT) (L : LookD) (j : JobD) (u : Int) : Nat → Int → Except Int (List FreeD)
  | 0, _ => .error 5
  | k + 1, n => if tryV pv sf L j u n then .ok (slotsV pv L j.sh n) else fillFrom pv sf L j u k (n - 1)
def fillV (pv : PlaceT) (sf : SafeT) (L : LookD) (j : JobD) (u : Int) : Except Int (List FreeD) := match mostV pv L j with
  | .error e => .error e
  | .ok l => fillFrom pv sf L j u ((l.length : Int) - j.sh.mn + 1).toNat l.length
/-- what is asked of Place besides -/
def PlaceS (pv : PlaceT) : Prop := ∀ (v : List FreeD) (s : ShapeD) (n : Int) (l : List FreeD), pv v s n = .ok l → l.length ≤ 20
def PlaceN (pv : PlaceT) : Prop := ∀ (v : List FreeD) (s : ShapeD) (n e : Int), pv v s n = .error e → e ≠ 0
theorem fill_ok {pv : PlaceT} {sf : SafeT} (HP : PlaceC pv) (HN : PlaceN pv) (HL : PlaceS pv) (HS : SafeC sf) (L : LookD) (j : JobD) (u : Int) (hB : Big L) (hF : FewP L) : PureC Try.prog 10 [.a L.cs, .a j.cs, i64 u] (Option Addr × Nat) (fun y => resL y.1 y.2 (fillV pv sf L j u)) (fun _ => True) := by
  refine pureC_intro Try.func10 rfl rfl rfl (fun _ => resL_pure _ _ _) (Nat.le_of_ble_eq_true rfl) fun XC w0 => ?_
  have hv := hB.view
  refine p_call (n := 60) C (most_ok HP L j hB) rfl rfl fun y _ => ?_
  cases hm : mostV pv L j with
  | error e =>
    have he : e ≠ 0 := by
      intro h0
      subst h0
      unfold mostV at hm
      split at hm
      · rename_i h; injection hm with hm; exact h hm
      · split at hm
        · rename_i h; injection hm with hm; exact h hm
        · split at hm
          · exact HN _ _ _ _ hm rfl
          · cases hm
    have hfv : fillV pv sf L j u = .error e := by rw [fillV, hm]
    refine p_br (n := 60) C rfl (fun _ => ?_) (fun h => absurd h (by simp [he]))
    exact p_ret (n := 60) C Try.func10 rfl rfl rfl rfl (none, 0) trivial (by rw [hfv]; rfl) (resL_pure _ _ _)
  | ok lst =>
    have hlen : lst.length ≤ 20 := by
      unfold mostV at hm
      split at hm
      · cases hm
      · split at hm
        · cases hm
        · split at hm
          · exact HL _ _ _ _ hm
          · cases hm
    have hfv : fillV pv sf L j u = fillFrom pv sf L j u ((lst.length : Int) - j.sh.mn + 1).toNat lst.length := by rw [fillV, hm]
    have hmn : 1 ≤ j.sh.mn ∧ j.sh.mn ≤ 16 := by
      unfold mostV at hm
      split at hm
      · cases hm
      · rename_i h
        have := chk0 (leftE0 (Decidable.not_not.1 h)).1
        omega
    refine p_br (n := 60) C rfl (fun h => absurd h (by decide)) (fun _ => ?_)
    refine p_at (n := 15) C rfl ?_
    refine p_inline C Try.func29 rfl rfl rfl rfl (Nat.le_of_ble_eq_true rfl) fun ao hao => ?_
    refine p_pop (n := 60) C Try.func29 rfl rfl rfl rfl rfl rfl rfl rfl hao rfl ?_
    refine p_at (n := 60) C rfl ?_
    refine p_range C rfl rfl Try.func50 rfl rfl (Nat.le_of_ble_eq_true rfl) fun ai l r hL hrs hrp => ?_
    refine p_loop (n := 60) C rfl ?_
    let I : Int × Loop → St := fun x => ⟨[(4, i64 x.1), (2, .p 7 0), (1, .p 6 0), (0, .y 9)], [(9, .lp l x.2), (8, .mark), (7, .cells [i64 j.sh.mn] 3), (6, .cells [i64 lst.length] 3), (5, .cells [.f (.func 31) [.p 0 0, .p 1 0, .p 2 0]] 83), (4, .cells [i64 0] 36), (3, .cells [.v (.slice none 0 0)] 35), (2, .cells [i64 u] 3), (1, .cells j.cs 32), (0, .cells L.cs 28)], 15, 10, [], [⟨ai, [(3, .p 0 0), (4, .p 1 0), (5, .p 2 0), (6, .p 3 0), (7, .p 4 0), (10, .p 5 0)], 39, [8]⟩]⟩
    refine p_weaken (st1 := I ((lst.length : Int), r)) id (p_inv I (fun x => (x.1 ≤ (lst.length : Int) ∧ (j.sh.mn - 1 ≤ x.1 ∨ x.1 = (lst.length : Int))) ∧ fillFrom pv sf L j u (x.1 - j.sh.mn + 1).toNat x.1 = fillFrom pv sf L j u ((lst.length : Int) - j.sh.mn + 1).toNat lst.length ∧ LoopIs x.2 10 ai.tmps _ _ _ ∧ x.2.state = .ready ∧ x.2.pending = none) (fun x => (x.1 - j.sh.mn + 1).toNat) (fun x hx ih => ?_) ((lst.length : Int), r) ⟨⟨Int.le_refl _, .inr rfl⟩, rfl, hL, hrs, hrp⟩) (.inl rfl) rfl ⟨rfl, rfl, rfl, rfl, rfl, rfl, rfl, rfl, trivial⟩
      ⟨⟨rfl, rfl⟩, Nat.le_of_ble_eq_true rfl, trivial, Nat.le_of_ble_eq_true rfl, ⟨rfl, rfl, rfl⟩, Nat.le_of_ble_eq_true rfl, ⟨rfl, rfl, rfl⟩, Nat.le_of_ble_eq_true rfl, ⟨rfl, rfl, rfl⟩, Nat.le_of_ble_eq_true rfl, ⟨rfl, rfl, rfl⟩, Nat.le_of_ble_eq_true rfl, ⟨rfl, rfl, rfl⟩, Nat.le_of_ble_eq_true rfl, ⟨rfl, rfl, rfl⟩, Nat.le_of_ble_eq_true rfl, ⟨rfl, rfl, rfl⟩, Nat.le_of_ble_eq_true rfl, ⟨rfl, rfl, rfl⟩, Nat.le_of_ble_eq_true rfl, trivial⟩ rfl rfl rfl ⟨⟨rfl, rfl, rfl, rfl, rfl, rfl, rfl, rfl, rfl, rfl, rfl, rfl, rfl, rfl, rfl, rfl, trivial⟩, trivial⟩
    obtain ⟨n, r⟩ := x
    obtain ⟨⟨hx1, hx2⟩, hx3, hL, hrs, hrp⟩ := hx
    have hx1 : n ≤ (lst.length : Int) := hx1
    have hx2 : j.sh.mn - 1 ≤ n ∨ n = (lst.length : Int) := hx2
    have hx3 : fillFrom pv sf L j u (n - j.sh.mn + 1).toNat n = fillFrom pv sf L j u ((lst.length : Int) - j.sh.mn + 1).toNat lst.length := hx3
    refine p_br (n := 60) C rfl (fun h3 => ?_) (fun h3 => ?_)
    · have h3 : n ≥ j.sh.mn := of_decide_eq_true h3
      obtain ⟨k, hk⟩ : ∃ k : Nat, (n - j.sh.mn + 1).toNat = k + 1 := ⟨(n - j.sh.mn).toNat, by omega⟩
      have hk' : (n - 1 - j.sh.mn + 1).toNat = k := by omega
      rw [hk] at hx3
      refine p_at (n := 60) C rfl ?_
      refine p_yield C hL rfl rfl rfl rfl rfl fun bi hbi => ?_
      refine p_at (n := 60) C rfl ?_
      refine p_begin 9 rfl hrs fun r2 hr2s hr2p hL2 => ?_
      refine p_at (n := 60) C rfl ?_
      refine p_inline C Try.func31 rfl rfl rfl rfl (Nat.le_of_ble_eq_true rfl) fun ci hci => ?_
      refine p_call (n := 60) C (HP L.view j.sh n hv) rfl rfl fun y2 _ => ?_
      cases hpv : pv L.view.l j.sh n with
      | error e =>
        have hsl : slotsV pv L j.sh n = [] := by rw [slotsV, hpv]
        refine p_at (n := 4) C rfl ?_
        refine p_nilS 7 (k := 4) (fun i => (([] : List FreeD).getD i default).cs) rfl ?_
        refine p_call (n := 60) C (safe_ok HS L ⟨j.id, j.queue, u, false, ⟨none, 0, []⟩⟩ hB ⟨hF.view, hF.ends, hF.slots, Nat.zero_le _⟩) rfl rfl fun _ _ => ?_
        refine p_pop (n := 60) C Try.func31 rfl rfl rfl rfl rfl rfl rfl rfl hci rfl ?_
        refine p_br (n := 60) C rfl (fun h4 => ?_) (fun h4 => ?_)
        · have h4 : tryV pv sf L j u n = true := by rw [tryV, hsl]; exact h4
          have hf : fillV pv sf L j u = .ok [] := by rw [hfv, ← hx3, fillFrom, if_pos h4, hsl]
          refine p_at (n := 60) C rfl ?_
          refine p_rend 9 rfl rfl rfl rfl hbi rfl fun r3 hr3s hr3p hL3 => ?_
          refine p_br (n := 60) C rfl (fun _ => ?_) (fun h => absurd h (by decide))
          refine p_popr (n := 60) C 9 Try.func50 rfl rfl rfl rfl rfl rfl rfl rfl (by rw [hr3s]; decide) hr3p ?_
          exact p_ret (n := 60) C Try.func10 rfl rfl rfl rfl (none, 0) trivial (by rw [hf]; rfl) (resL_pure _ _ _)
        · have h4 : ¬ tryV pv sf L j u n = true := by rw [tryV, hsl]; simpa using h4
          refine p_at (n := 60) C rfl ?_
          refine p_rend 9 rfl rfl rfl rfl hbi rfl fun r3 hr3s hr3p hL3 => ?_
          refine p_br (n := 60) C rfl (fun h => absurd h (by decide)) (fun _ => ?_)
          refine p_loop (n := 60) C rfl ?_
          refine p_weaken (st1 := I (n - 1, r3)) id (ih (n - 1, r3) ⟨⟨by show n - 1 ≤ _; omega, .inl (by show _ ≤ n - 1; omega)⟩, by show fillFrom pv sf L j u (n - 1 - j.sh.mn + 1).toNat (n - 1) = _; rw [hk', ← hx3, fillFrom, if_neg h4], hL3 (hL2 hL), hr3s, hr3p⟩ (by show (n - 1 - j.sh.mn + 1).toNat < (n - j.sh.mn + 1).toNat; omega)) (.inl rfl) rfl ⟨?_, rfl, rfl, rfl, rfl, rfl, rfl, rfl, trivial⟩
            ⟨⟨rfl, rfl⟩, Nat.le_of_ble_eq_true rfl, trivial, Nat.le_of_ble_eq_true rfl, ⟨rfl, rfl, rfl⟩, Nat.le_of_ble_eq_true rfl, ⟨rfl, rfl, rfl⟩, Nat.le_of_ble_eq_true rfl, ⟨rfl, rfl, rfl⟩, Nat.le_of_ble_eq_true rfl, ⟨rfl, rfl, rfl⟩, Nat.le_of_ble_eq_true rfl, ⟨rfl, rfl, rfl⟩, Nat.le_of_ble_eq_true rfl, ⟨rfl, rfl, rfl⟩, Nat.le_of_ble_eq_true rfl, ⟨rfl, rfl, rfl⟩, Nat.le_of_ble_eq_true rfl, ⟨rfl, rfl, rfl⟩, Nat.le_of_ble_eq_true rfl, trivial⟩ rfl rfl rfl ⟨⟨rfl, rfl, rfl, rfl, rfl, rfl, rfl, rfl, rfl, rfl, rfl, rfl, rfl, rfl, rfl, rfl, trivial⟩, trivial⟩
          show some (i64 _) = some (i64 _)
          rw [wrapM (by omega) (by omega)]
      | ok l2 =>
        have hsl : slotsV pv L j.sh n = l2 := by rw [slotsV, hpv]
        have hl2 : l2.length ≤ 20 := HL _ _ _ _ hpv
        refine p_call (n := 60) C (safe_ok HS L ⟨j.id, j.queue, u, false, ⟨y2.1, y2.2, l2⟩⟩ hB ⟨hF.view, hF.ends, hF.slots, hl2⟩) rfl rfl fun _ _ => ?_
        refine p_pop (n := 60) C Try.func31 rfl rfl rfl rfl rfl rfl rfl rfl hci rfl ?_
        refine p_br (n := 60) C rfl (fun h4 => ?_) (fun h4 => ?_)
        · have h4 : tryV pv sf L j u n = true := by rw [tryV, hsl]; exact h4
          have hf : fillV pv sf L j u = .ok l2 := by rw [hfv, ← hx3, fillFrom, if_pos h4, hsl]
          refine p_at (n := 60) C rfl ?_
          refine p_rend 9 rfl rfl rfl rfl hbi rfl fun r3 hr3s hr3p hL3 => ?_
          refine p_br (n := 60) C rfl (fun _ => ?_) (fun h => absurd h (by decide))
          refine p_popr (n := 60) C 9 Try.func50 rfl rfl rfl rfl rfl rfl rfl rfl (by rw [hr3s]; decide) hr3p ?_
          exact p_ret (n := 60) C Try.func10 rfl rfl rfl rfl (y2.1, y2.2) trivial (by rw [hf]; rfl) (resL_pure _ _ _)
        · have h4 : ¬ tryV pv sf L j u n = true := by rw [tryV, hsl]; simpa using h4
          refine p_at (n := 60) C rfl ?_
          refine p_rend 9 rfl rfl rfl rfl hbi rfl fun r3 hr3s hr3p hL3 => ?_
          refine p_br (n := 60) C rfl (fun h => absurd h (by decide)) (fun _ => ?_)
          refine p_loop (n := 60) C rfl ?_
          refine p_weaken (st1 := I (n - 1, r3)) id (ih (n - 1, r3) ⟨⟨by show n - 1 ≤ _; omega, .inl (by show _ ≤ n - 1; omega)⟩, by show fillFrom pv sf L j u (n - 1 - j.sh.mn + 1).toNat (n - 1) = _; rw [hk', ← hx3, fillFrom, if_neg h4], hL3 (hL2 hL), hr3s, hr3p⟩ (by show (n - 1 - j.sh.mn + 1).toNat < (n - j.sh.mn + 1).toNat; omega)) (.inl rfl) rfl ⟨?_, rfl, rfl, rfl, rfl, rfl, rfl, rfl, trivial⟩
            ⟨⟨rfl, rfl⟩, Nat.le_of_ble_eq_true rfl, trivial, Nat.le_of_ble_eq_true rfl, ⟨rfl, rfl, rfl⟩, Nat.le_of_ble_eq_true rfl, ⟨rfl, rfl, rfl⟩, Nat.le_of_ble_eq_true rfl, ⟨rfl, rfl, rfl⟩, Nat.le_of_ble_eq_true rfl, ⟨rfl, rfl, rfl⟩, Nat.le_of_ble_eq_true rfl, ⟨rfl, rfl, rfl⟩, Nat.le_of_ble_eq_true rfl, ⟨rfl, rfl, rfl⟩, Nat.le_of_ble_eq_true rfl, ⟨rfl, rfl, rfl⟩, Nat.le_of_ble_eq_true rfl, ⟨rfl, rfl, rfl⟩, Nat.le_of_ble_eq_true rfl, trivial⟩ rfl rfl rfl ⟨⟨rfl, rfl, rfl, rfl, rfl, rfl, rfl, rfl, rfl, rfl, rfl, rfl, rfl, rfl, rfl, rfl, trivial⟩, trivial⟩
          show some (i64 _) = some (i64 _)
          rw [wrapM (by omega) (by omega)]
    · have h3 : ¬ n ≥ j.sh.mn := of_decide_eq_false h3
      have hk : (n - j.sh.mn + 1).toNat = 0 := by omega
      rw [hk] at hx3
      have hf : fillV pv sf L j u = .error 5 := by rw [hfv, ← hx3, fillFrom]
      refine p_popr (n := 60) C 9 Try.func50 rfl rfl rfl rfl rfl rfl rfl rfl (by show r.state ≠ _; rw [hrs]; decide) hrp ?_
      exact p_ret (n := 60) C Try.func10 rfl rfl rfl rfl (none, 0) trivial (by rw [hf]; rfl) (resL_pure _ _ _)
end Go.Proofs.Ytneddobmlcbabaa
namespace Go.Proofs.Ytneddobmlcbabaa
open Go.SE
open Go.RowKit
set_option maxRecDepth 100000
set_option maxHeartbeats 4000000

def ls (r : Except Int (List FreeD)) : List FreeD := match r with
  | .ok l => l
  | .error _ => []
def er (r : Except Int (List FreeD)) : Int := match r with
  | .ok _ => 0
  | .error e => e
def resU (A : Option Addr) (c : Nat) (r : Except Int (List FreeD)) : SV := .t [Sl.sv 4 FreeD.cs ⟨A, c, ls r⟩, i64 (er r)]
theorem PureC.uni {f : Nat} {args : List SV} {r : Except Int (List FreeD)} (h : PureC Try.prog f args (Option Addr × Nat) (fun y => resL y.1 y.2 r) (fun _ => True)) : PureC Try.prog f args (Option Addr × Nat) (fun y => resU y.1 y.2 r) (fun _ => True) := by
  cases r with
  | ok l => exact h
  | error e =>
    refine ⟨h.ent, h.pa, fun _ => rfl, fun X w hX hok => (h.calls X w hX hok).mono ?_⟩
    rintro e' w' ⟨y, _, rfl, _, hb⟩
    exact ⟨(none, 0), trivial, rfl, .t fun u hu => by
      rcases List.mem_cons.1 hu with rfl | hu
      · exact .s (Nat.le_refl _) (by show (0 : Nat) ≤ _; omega) (fun i hi => absurd hi (Nat.not_lt_zero _)) (fun i hi => absurd hi (Nat.not_lt_zero _)) (fun i hi => absurd hi (Nat.not_lt_zero _))
      · simp only [List.mem_singleton] at hu; subst hu; exact .v _, hb⟩
def freeL (L : LookD) : LookD := { L with head := 0 }
/-- what the law asks of the first three calls -/
structure More1 (a s t : Except Int (List FreeD)) : Prop where
  len : (ls s).length ≤ (ls t).length
  ok : er s = 0 → er t = 0
  full : er a = 0 → er t = 0 ∧ (ls t).length = (ls a).length
def moreU (by_ : Int) (u : UnitsD) : UnitsD := ⟨minI (IntKind.i64.wrap (u.g + IntKind.i64.wrap by_)) 1048576, minI (IntKind.i64.wrap (u.c + IntKind.i64.wrap by_)) 1048576⟩
def mixU (by_ : Int) (l : List UnitsD) (j : Nat) : List UnitsD := (l.take j).map (moreU by_) ++ l.drop j
theorem mixU_len (by_ : Int) (l : List UnitsD) (j : Nat) : (mixU by_ l j).length = l.length := by simp [mixU]; omega
theorem mixU_at (by_ : Int) {l : List UnitsD} {j : Nat} (h : j < l.length) : (mixU by_ l j).getD j default = l.getD j default := by
  have : ((l.take j).map (moreU by_)).length = j := by simp; omega
  simp only [mixU, List.getD_eq_getElem?_getD]
  rw [List.getElem?_append_right (by omega), this]
  simp
theorem mixU_succ (by_ : Int) {l : List UnitsD} {j : Nat} (h : j < l.length) : (mixU by_ l j).set j (moreU by_ (l.getD j default)) = mixU by_ l (j + 1) := by
  have h1 : ((l.take j).map (moreU by_)).length = j := by simp; omega
  simp only [mixU]
  rw [List.set_append_right _ _ (by omega), h1, Nat.sub_self, List.drop_eq_getElem_cons h, List.set_cons_zero, List.take_add_one, List.map_append, List.append_assoc]
  simp [h, List.getD_eq_getElem?_getD]
theorem setEl_setU (out : List UnitsD) (k : Nat) (f : UnitsD) (l : List SV) (hl : l = f.cs) (hk : k < out.length) (i : Nat) : setEl k l (fun i => (out.getD i default).cs) i = ((out.set k f).getD i default).cs := by
  simp only [setEl]
  by_cases h : i = k
  · subst h
    simp [List.getD_eq_getElem?_getD, hk, hl]
  · rw [if_neg h]
    simp [List.getD_eq_getElem?_getD, List.getElem?_set_ne (Ne.symm h)]
def moreL (L : LookD) (by_ : Int) (A : Option Addr) (c : Nat) : LookD := { L with left := ⟨A, c, mixU by_ L.left.l L.left.l.length⟩ }
def moreJ (j : JobD) (by_ : Int) : JobD := { j with sh := { j.sh with mx := minI (IntKind.i64.wrap (j.sh.mx + IntKind.i64.wrap (by_.tmod 3))) 16 } }
def sq : Code → Code
  | .seq _ b => b
  | c => c
noncomputable def tail3 : Code := match Try.f3.body with
  | some c => sq (sq (sq (sq (sq (sq (sq (sq (sq c))))))))
  | none => .skip
theorem elasticMore_walk {pv : PlaceT} {sf : SafeT} (HP : PlaceC pv) (HN : PlaceN pv) (HL : PlaceS pv) (HS : SafeC sf) (HA : PureC Try.prog 7 [] Unit (fun _ => bo true) (fun _ => True)) (L : LookD) (j : JobD) (u by_ : Int)
    (h1 : FewP L → More1 (mostV pv L j) (fillV pv sf L j u) (fillV pv sf (freeL L) j u))
    (h2 : ∀ A c, FewP L → er (mostV pv L j) = 0 → er (mostV pv (moreL L by_ A c) (moreJ j by_)) = 0 ∧ (ls (mostV pv L j)).length ≤ (ls (mostV pv (moreL L by_ A c) (moreJ j by_))).length) :
    PureC Try.prog 3 [.a L.cs, .a j.cs, i64 u, .v (.int .u8 by_)] Unit (fun _ => bo true) (fun _ => True) := by
  refine pureC_intro Try.func3 rfl rfl rfl (fun _ => rfl) (Nat.le_of_ble_eq_true rfl) fun XC w0 => ?_
  refine p_call (n := 60) C HA rfl rfl fun _ _ => ?_
  refine p_br (n := 60) C rfl (fun h => absurd h (by decide)) (fun _ => ?_)
  refine p_call (n := 60) C (few14_ok L) rfl rfl fun y hy => ?_
  refine p_br (n := 60) C rfl (fun hq => ?_) (fun hq => ?_)
  · refine p_br (n := 60) C rfl (fun _ => ?_) (fun h => absurd h (by decide))
    exact p_ret (n := 60) C Try.func3 rfl rfl rfl rfl () trivial rfl rfl
  have hF : FewP L := hy (by simpa using hq)
  have hB : Big L := hF.big
  have hF' : FewP (freeL L) := ⟨hF.left, hF.waits, hF.running, hF.view, hF.right, hF.ends, hF.slots, hF.units, hF.more⟩
  have hB' : Big (freeL L) := ⟨hB.view, hB.left, hB.ends, hB.waits, hB.running⟩
  have h1 := h1 hF
  have h2 := fun A c => h2 A c hF
  refine p_br (n := 60) C rfl (fun h3 => ?_) (fun h3 => ?_)
  · exact p_ret (n := 60) C Try.func3 rfl rfl rfl rfl () trivial rfl rfl
  refine p_call (n := 60) C (PureC.uni (most_ok HP L j hB)) rfl rfl fun y1 _ => ?_
  refine p_call (n := 60) C (PureC.uni (fill_ok HP HN HL HS L j u hB hF)) rfl rfl fun y2 _ => ?_
  refine p_call (n := 60) C (PureC.uni (fill_ok HP HN HL HS (freeL L) j u hB' hF')) rfl rfl fun y3 _ => ?_
  have hlen := h1.len
  have hok := h1.ok
  have hfull := h1.full
  generalize hra : mostV pv L j = ra at *
  generalize hrs : fillV pv sf L j u = rs at *
  generalize hrt : fillV pv sf (freeL L) j u = rt at *
  refine p_br (n := 60) C rfl (fun h => absurd (show ((ls rs).length : Int) > ((ls rt).length : Int) from of_decide_eq_true h) (by omega)) (fun h4 => ?_)
  let stK : St := ⟨[(3, .v (.int .u8 by_)), (4, .p 0 0), (5, .p 1 0), (9, Sl.sv 4 FreeD.cs ⟨y1.1, y1.2, ls ra⟩), (10, i64 (er ra))], [(1, .cells j.cs 32), (0, .cells L.cs 28)], 155, 2, [], []⟩
  have K : QS Try.prog XC (fun _ => False) w0 (frm 3) [] 3 (RR (fun _ : Unit => bo true) (fun _ => True) XC w0) [.code tail3] [] stK := by
    have hll := hF.left
    refine p_need (n := 60) C rfl (show 0 + L.left.l.length ≤ maxLen ∧ (0 + L.left.l.length) * 16 ≤ 140737488355328 from ⟨by simp only [maxLen]; omega, by omega⟩) ?_
    refine p_loop (n := 60) C rfl ?_
    let Lc : List SV := [i64 L.now, i64 L.head, i64 L.promise, i64 L.timeout, L.view.sv 4 FreeD.cs, .own 1, L.ends.sv 5 HoldD.cs, L.waits.sv 10 WaitD.cs, L.running.sv 16 RecordD.cs]
    let I : Nat → St := fun i => ⟨[(17, i64 (i : Int)), (16, .p 2 0), (3, .v (.int .u8 by_)), (5, .p 0 0), (9, Sl.sv 4 FreeD.cs ⟨y1.1, y1.2, ls ra⟩), (10, i64 (er ra))], [(2, .cells Lc 28), (1, .row 41 2 (mixU by_ L.left.l i).length fun k => ((mixU by_ L.left.l i).getD k default).cs), (0, .cells j.cs 32)], 155, 3, [], []⟩
    refine p_weaken (st1 := I 0) (fun i => if i = 0 then 1 else if i = 1 then 4 else 2) (p_inv I (fun i => i ≤ L.left.l.length) (fun i => L.left.l.length - i) (fun i hi ih => ?_) 0 (Nat.zero_le _)) (.inl rfl) rfl ⟨rfl, rfl, rfl, rfl, rfl, rfl, rfl, rfl, rfl, rfl, rfl, rfl, trivial⟩
      ⟨⟨rfl, rfl, rfl⟩, Nat.le_of_ble_eq_true rfl, ⟨rfl, rfl, by show 0 + L.left.l.length = _; rw [mixU_len, Nat.zero_add], fun k hk => ?_⟩, Nat.le_of_ble_eq_true rfl, ⟨rfl, rfl, rfl⟩, Nat.le_of_ble_eq_true rfl, trivial⟩ rfl rfl rfl trivial
    rotate_left
    · simp [appEl, mixU]
    have hlen := mixU_len by_ L.left.l i
    refine p_br (n := 60) C rfl (fun h => ?_) (fun h => ?_)
    · have h : (i : Int) < ((mixU by_ L.left.l i).length : Int) := of_decide_eq_true h
      have hi' : i < L.left.l.length := by omega
      have hin : i < (mixU by_ L.left.l i).length := by omega
      have hk : (0 : Int) ≤ (i : Int) ∧ (i : Int) < ((mixU by_ L.left.l i).length : Int) := ⟨by omega, h⟩
      refine p_at (n := 60) C rfl ?_
      refine p_draw C [1] (.t 0 <| .t 1 <| .t 2 <| .t 3 <| .t 4 <| .t 5 <| .t 9 <| .t 10 <| .o 6 <| .o 7 <| .o 8 <| .o 11 <| .o 12 <| .o 13 <| .o 14 <| .o 15 .d) (by kernel_rfl) (by kernel_rfl) ?_
      refine d_need C rfl hk ?_
      refine d_need C rfl hin ?_
      refine d_need C rfl hk ?_
      refine d_need C rfl hin ?_
      refine d_fin C rfl ?_
      let u0 := L.left.l.getD i default
      let f1 : UnitsD := ⟨minI (IntKind.i64.wrap (u0.g + IntKind.i64.wrap by_)) 1048576, u0.c⟩
      have hg0 : (mixU by_ L.left.l i).getD i default = u0 := mixU_at by_ hi'
      have hg1 : ((mixU by_ L.left.l i).set i f1).getD i default = f1 := by simp [List.getD_eq_getElem?_getD, hin]
      have hl1 : ((mixU by_ L.left.l i).set i f1).length = (mixU by_ L.left.l i).length := List.length_set
      have hin1 : i < ((mixU by_ L.left.l i).set i f1).length := by omega
      have hk1 : (0 : Int) ≤ (i : Int) ∧ (i : Int) < (((mixU by_ L.left.l i).set i f1).length : Int) := ⟨by omega, by omega⟩
      refine p_at (n := 1) C rfl ?_
      refine p_weaken (st1 := ⟨[(17, i64 (i : Int)), (16, .p 2 0), (3, .v (.int .u8 by_)), (5, .p 0 0), (9, Sl.sv 4 FreeD.cs ⟨y1.1, y1.2, ls ra⟩), (10, i64 (er ra))], [(2, .cells Lc 28), (1, .row 41 2 ((mixU by_ L.left.l i).set i f1).length fun k => (((mixU by_ L.left.l i).set i f1).getD k default).cs), (0, .cells j.cs 32)], 155, 3, [], []⟩) id ?_ (.inl rfl) rfl ⟨rfl, rfl, rfl, rfl, rfl, rfl, rfl, rfl, rfl, rfl, rfl, rfl, trivial⟩
        ⟨⟨rfl, rfl, rfl⟩, Nat.le_of_ble_eq_true rfl, ⟨rfl, rfl, hl1.symm, fun k hk => setEl_setU _ i f1 _ (by rw [show (mixU by_ L.left.l i).getD (Int.toNat (i : Int)) default = u0 from hg0]; rfl) hin k⟩, Nat.le_of_ble_eq_true rfl, ⟨rfl, rfl, rfl⟩, Nat.le_of_ble_eq_true rfl, trivial⟩ rfl rfl rfl trivial
      generalize hout1 : (mixU by_ L.left.l i).set i f1 = out1 at *
      refine p_at (n := 60) C rfl ?_
      refine p_draw C [1] (.t 0 <| .t 1 <| .t 2 <| .t 3 <| .t 4 <| .t 5 <| .t 9 <| .t 10 <| .o 6 <| .o 7 <| .o 8 <| .o 11 <| .o 12 <| .o 13 <| .o 14 <| .o 15 .d) (by kernel_rfl) (by kernel_rfl) ?_
      refine d_need C rfl hk1 ?_
      refine d_need C rfl hin1 ?_
      refine d_need C rfl hk1 ?_
      refine d_need C rfl hin1 ?_
      refine d_fin C rfl ?_
      refine p_loop (n := 60) C rfl ?_
      have hset : out1.set i (moreU by_ u0) = mixU by_ L.left.l (i + 1) := by rw [← hout1, List.set_set]; exact mixU_succ by_ hi'
      refine p_weaken (st1 := I (i + 1)) id (ih (i + 1) hi' (by omega)) (.inl rfl) rfl ⟨?_, rfl, rfl, rfl, rfl, rfl, rfl, rfl, rfl, rfl, rfl, rfl, trivial⟩
        ⟨⟨rfl, rfl, rfl⟩, Nat.le_of_ble_eq_true rfl, ⟨rfl, rfl, by show out1.length = (mixU by_ L.left.l (i + 1)).length; rw [hl1, mixU_len, mixU_len], fun k hk => ?_⟩, Nat.le_of_ble_eq_true rfl, ⟨rfl, rfl, rfl⟩, Nat.le_of_ble_eq_true rfl, trivial⟩ rfl rfl rfl trivial
      · show some (i64 _) = some (i64 _)
        rw [wrapN (by omega)]
      · show setEl i _ (fun i => (out1.getD i default).cs) k = ((mixU by_ L.left.l (i + 1)).getD k default).cs
        rw [← hset]
        exact setEl_setU out1 i (moreU by_ u0) _ (by rw [show out1.getD (Int.toNat (i : Int)) default = f1 from hg1]; rfl) hin1 k
    · have h : ¬ (i : Int) < ((mixU by_ L.left.l i).length : Int) := of_decide_eq_false h
      have hi' : i = L.left.l.length := by omega
      subst hi'
      refine p_need (n := 60) C rfl (by decide) ?_
      refine p_at (n := 60) C rfl ?_
      refine p_frz 1 rfl fun A c => ?_
      have hB2 : Big (moreL L by_ A c) := ⟨hB.view, by show (mixU by_ L.left.l L.left.l.length).length < _; omega, hB.ends, hB.waits, hB.running⟩
      refine p_call (n := 60) C (PureC.uni (most_ok HP (moreL L by_ A c) (moreJ j by_) hB2)) rfl rfl fun y4 _ => ?_
      have h2 := h2 A c
      generalize hrb : mostV pv (moreL L by_ A c) (moreJ j by_) = rb at *
      refine p_br (n := 60) C rfl (fun h5 => ?_) (fun h5 => ?_)
      · exact p_ret (n := 60) C Try.func3 rfl rfl rfl rfl () trivial rfl rfl
      · have h5 : er ra = 0 := by simpa using h5
        obtain ⟨e1, e2⟩ := h2 h5
        refine p_br (n := 60) C rfl (fun h6 => ?_) (fun h6 => ?_)
        · refine p_ret (n := 60) C Try.func3 rfl rfl rfl rfl () trivial ?_ rfl
          show bo _ = bo true
          have : decide (((ls rb).length : Int) ≥ ((ls ra).length : Int)) = true := decide_eq_true (by omega)
          simp only [cond_true, cond_false]
          exact congrArg bo this
        · exact absurd h6 (by simp [e1])
  refine p_br (n := 60) C rfl (fun h5 => ?_) (fun h5 => ?_)
  · have h5 : er rs = 0 := by simpa using h5
    refine p_br (n := 60) C rfl (fun h6 => ?_) (fun h6 => ?_)
    · exact absurd h6 (by simp [hok h5])
    · refine p_br (n := 60) C rfl (fun h7 => ?_) (fun h7 => ?_)
      · have h7 : er ra = 0 := by simpa using h7
        refine p_br (n := 60) C rfl (fun h8 => ?_) (fun h8 => ?_)
        · exact absurd h8 (by simp [(hfull h7).1])
        · refine p_br (n := 60) C rfl (fun h9 => ?_) (fun h9 => ?_)
          · exact absurd h9 (by simp [(hfull h7).2])
          · refine p_at (n := 1) C rfl ?_
            exact p_weaken (st1 := stK) id K (.inl rfl) rfl ⟨rfl, rfl, rfl, rfl, rfl, rfl, rfl, rfl, rfl, rfl, trivial⟩ ⟨⟨rfl, rfl, rfl⟩, Nat.le_of_ble_eq_true rfl, ⟨rfl, rfl, rfl⟩, Nat.le_of_ble_eq_true rfl, trivial⟩ rfl rfl rfl trivial
      · refine p_br (n := 60) C rfl (fun h9 => ?_) (fun h9 => ?_)
        · exact absurd h9 (by simp)
        · refine p_at (n := 1) C rfl ?_
          exact p_weaken (st1 := stK) id K (.inl rfl) rfl ⟨rfl, rfl, rfl, rfl, rfl, rfl, rfl, rfl, rfl, rfl, trivial⟩ ⟨⟨rfl, rfl, rfl⟩, Nat.le_of_ble_eq_true rfl, ⟨rfl, rfl, rfl⟩, Nat.le_of_ble_eq_true rfl, trivial⟩ rfl rfl rfl trivial
  · refine p_br (n := 60) C rfl (fun h6 => ?_) (fun h6 => ?_)
    · exact absurd h6 (by simp)
    · refine p_br (n := 60) C rfl (fun h7 => ?_) (fun h7 => ?_)
      · have h7 : er ra = 0 := by simpa using h7
        refine p_br (n := 60) C rfl (fun h8 => ?_) (fun h8 => ?_)
        · exact absurd h8 (by simp [(hfull h7).1])
        · refine p_br (n := 60) C rfl (fun h9 => ?_) (fun h9 => ?_)
          · exact absurd h9 (by simp [(hfull h7).2])
          · refine p_at (n := 1) C rfl ?_
            exact p_weaken (st1 := stK) id K (.inl rfl) rfl ⟨rfl, rfl, rfl, rfl, rfl, rfl, rfl, rfl, rfl, rfl, trivial⟩ ⟨⟨rfl, rfl, rfl⟩, Nat.le_of_ble_eq_true rfl, ⟨rfl, rfl, rfl⟩, Nat.le_of_ble_eq_true rfl, trivial⟩ rfl rfl rfl trivial
      · refine p_br (n := 60) C rfl (fun h9 => ?_) (fun h9 => ?_)
        · exact absurd h9 (by simp)
        · refine p_at (n := 1) C rfl ?_
          exact p_weaken (st1 := stK) id K (.inl rfl) rfl ⟨rfl, rfl, rfl, rfl, rfl, rfl, rfl, rfl, rfl, rfl, trivial⟩ ⟨⟨rfl, rfl, rfl⟩, Nat.le_of_ble_eq_true rfl, ⟨rfl, rfl, rfl⟩, Nat.le_of_ble_eq_true rfl, trivial⟩ rfl rfl rfl trivial
end Go.Proofs.Ytneddobmlcbabaa
namespace Go.Proofs.Ytneddobmlcbabaa
open Go.SE
open Go.RowKit
set_option maxRecDepth 100000
set_option maxHeartbeats 4000000

/-- the look of the document's example -/
def awL (A1 A2 : Option Addr) (c1 c2 : Nat) : LookD := ⟨0, 0, 0, 0, ⟨A1, c1, [⟨0, 0, 255, 0⟩]⟩, ⟨A2, c2, [⟨5, 0⟩]⟩, ⟨none, 0, []⟩, ⟨none, 0, []⟩, ⟨none, 0, []⟩⟩
def awJ : JobD := ⟨0, 0, 0, 0, ⟨1, 0, 1, 7⟩⟩
theorem awake_ok {pv : PlaceT} (HP : PlaceC pv) (h : ∀ A1 A2 c1 c2, er (mostV pv (awL A1 A2 c1 c2) awJ) = 0 ∧ (ls (mostV pv (awL A1 A2 c1 c2) awJ)).length = 5) : PureC Try.prog 7 [] Unit (fun _ => bo true) (fun _ => True) := by
  refine pureC_intro Try.func7 rfl rfl rfl (fun _ => rfl) (Nat.le_of_ble_eq_true rfl) fun XC w0 => ?_
  refine p_at (n := 60) C rfl ?_
  refine p_weaken (st1 := ⟨[(8, .a [i64 0, i64 0, i64 0, i64 0, .own 0, .own 1, .v (.slice none 0 0), .v (.slice none 0 0), .v (.slice none 0 0)]), (10, .a awJ.cs)], [(1, .row 41 2 1 fun j => (([⟨5, 0⟩] : List UnitsD).getD j default).cs), (0, .row 73 4 1 fun j => (([⟨0, 0, 255, 0⟩] : List FreeD).getD j default).cs)], 21, 2, [], []⟩) id ?_ (.inl rfl) rfl ⟨rfl, rfl, rfl, rfl, trivial⟩
    ⟨⟨rfl, rfl, rfl, fun k hk => ?_⟩, Nat.le_of_ble_eq_true rfl, ⟨rfl, rfl, rfl, fun k hk => ?_⟩, Nat.le_of_ble_eq_true rfl, trivial⟩ rfl rfl rfl trivial
  rotate_left
  · have : k = 0 := by omega
    subst this; rfl
  · have : k = 0 := by omega
    subst this; rfl
  refine p_frz 0 rfl fun A1 c1 => ?_
  refine p_frz 1 rfl fun A2 c2 => ?_
  refine p_nilA 8 (l' := (awL A1 A2 c1 c2).cs) rfl ⟨.inl rfl, .inl rfl, .inl rfl, .inl rfl, .inl rfl, .inl rfl, .inr ⟨rfl, _, _, rfl⟩, .inr ⟨rfl, _, _, rfl⟩, .inr ⟨rfl, _, _, rfl⟩, trivial⟩ ?_
  obtain ⟨h1, h2⟩ := h A1 A2 c1 c2
  refine p_call (n := 60) C (PureC.uni (most_ok HP (awL A1 A2 c1 c2) awJ ⟨by show 1 < _; omega, by show 1 < _; omega, by show 0 < _; omega, by show 0 < _; omega, by show 0 < _; omega⟩)) rfl rfl fun y _ => ?_
  generalize mostV pv (awL A1 A2 c1 c2) awJ = ra at *
  refine p_br (n := 60) C rfl (fun h3 => ?_) (fun h3 => ?_)
  · refine p_ret (n := 60) C Try.func7 rfl rfl rfl rfl () trivial ?_ rfl
    show bo _ = bo true
    simp [h1]
  · exact absurd h3 (by simp [h2])
end Go.Proofs.Ytneddobmlcbabaa
namespace Go.Proofs.Ytneddobmlcbabaa
open Go.SE
open Go.RowKit

/-- What is asked of Place, in plain words. -/
structure PlaceF (pv : PlaceT) : Prop where
  len : ∀ {v s n l}, pv v s n = .ok l → (l.length : Int) = n
  ok : ∀ {v s n}, v.length ≤ 100 → (∀ f ∈ v, 0 ≤ f.c ∧ f.c ≤ 1048576) → s.chk = 0 → 1 ≤ n → n ≤ 16 → n ≤ roomV s v → ∃ l, pv v s n = .ok l
theorem canV0 {v : List FreeD} {s : ShapeD} {n : Int} {u : UnitsD} : canV v s n u = 0 ↔ n ≤ roomV s v ∧ withinV s n u = true := by
  unfold canV
  split
  · rename_i h
    exact ⟨fun h' => absurd h' (by decide), fun h' => by omega⟩
  · rename_i h
    cases hw : withinV s n u with
    | true => simp; omega
    | false => simp
theorem mostFrom_some {v : List FreeD} {s : ShapeD} {u : UnitsD} : ∀ {k : Nat} {n m : Int}, mostFrom v s u k n = some m → canV v s m u = 0 ∧ n - k < m ∧ m ≤ n
  | 0, n, m, h => by simp [mostFrom] at h
  | k + 1, n, m, h => by
    simp only [mostFrom] at h
    split at h
    · rename_i hc; simp at h; subst h; exact ⟨hc, by omega, by omega⟩
    · obtain ⟨h1, h2, h3⟩ := mostFrom_some h
      exact ⟨h1, by omega, by omega⟩
theorem mostFrom_finds {v : List FreeD} {s : ShapeD} {u : UnitsD} : ∀ {k : Nat} {n m : Int}, canV v s m u = 0 → n - k < m → m ≤ n → ∃ m', mostFrom v s u k n = some m' ∧ m ≤ m'
  | 0, n, m, _, h1, h2 => by omega
  | k + 1, n, m, hc, h1, h2 => by
    simp only [mostFrom]
    split
    · exact ⟨n, rfl, h2⟩
    · rename_i hn
      have : m ≠ n := by rintro rfl; exact hn hc
      exact mostFrom_finds hc (by omega) (by omega)
theorem mostV_ok {pv : PlaceT} {L : LookD} {j : JobD} {l : List FreeD} (h : mostV pv L j = .ok l) :
    leftE L j = 0 ∧ canV L.view.l j.sh j.sh.mn (leftU L j) = 0 ∧ ∃ m, mostFrom L.view.l j.sh (leftU L j) (j.sh.mx - j.sh.mn + 1).toNat j.sh.mx = some m ∧ pv L.view.l j.sh m = .ok l := by
  unfold mostV at h
  split at h
  · cases h
  · rename_i h1
    split at h
    · cases h
    · rename_i h2
      split at h
      · rename_i m hm
        exact ⟨Decidable.not_not.1 h1, Decidable.not_not.1 h2, m, hm, h⟩
      · cases h
theorem fillFrom_len {pv : PlaceT} (PF : PlaceF pv) {sf : SafeT} {L : LookD} {j : JobD} {u : Int} : ∀ {k : Nat} {n : Int}, (ls (fillFrom pv sf L j u k n)).length ≤ n.toNat
  | 0, n => by simp [fillFrom, ls]
  | k + 1, n => by
    simp only [fillFrom]
    split
    · simp only [ls, slotsV]
      split
      · rename_i l hl; have := PF.len hl; omega
      · simp
    · exact Nat.le_trans (fillFrom_len PF) (by omega)
theorem headV_zero (l : List WaitD) : headV 0 l = none := by
  have : l.find? (isHead 0) = none := by
    rw [List.find?_eq_none]
    intro x _
    simp [isHead]
  rw [headV, this]; rfl
theorem more1 {pv : PlaceT} (PF : PlaceF pv) (sf : SafeT) (L : LookD) (j : JobD) (u : Int) : More1 (mostV pv L j) (fillV pv sf L j u) (fillV pv sf (freeL L) j u) := by
  have hfree : mostV pv (freeL L) j = mostV pv L j := rfl
  cases hm : mostV pv L j with
  | error e =>
    have hs : fillV pv sf L j u = .error e := by rw [fillV, hm]
    have ht : fillV pv sf (freeL L) j u = .error e := by rw [fillV, hfree, hm]
    rw [hs, ht]
    exact ⟨Nat.le_refl _, id, fun h => ⟨h, rfl⟩⟩
  | ok l =>
    obtain ⟨h1, h2, m, h3, h4⟩ := mostV_ok hm
    have hl := PF.len h4
    obtain ⟨h5, h6, h7⟩ := mostFrom_some h3
    have hc := chk0 (leftE0 h1).1
    have ht : fillV pv sf (freeL L) j u = .ok l := by
      rw [fillV, hfree, hm]
      simp only
      obtain ⟨k, hk⟩ : ∃ k : Nat, ((l.length : Int) - j.sh.mn + 1).toNat = k + 1 := ⟨((l.length : Int) - j.sh.mn).toNat, by omega⟩
      have htry : tryV pv sf (freeL L) j u (l.length : Int) = true := by
        unfold tryV safeV
        rw [show headV (freeL L).head (freeL L).waits.l = none from headV_zero _]
      rw [hk, fillFrom, if_pos htry, hl]
      have : slotsV pv (freeL L) j.sh m = l := by
        unfold slotsV
        rw [show pv (freeL L).view.l j.sh m = .ok l from h4]
      rw [this]
    have hs : (ls (fillV pv sf L j u)).length ≤ l.length := by
      rw [fillV, hm]
      exact Nat.le_trans (fillFrom_len PF) (by omega)
    rw [ht]
    exact ⟨hs, fun _ => rfl, fun _ => ⟨rfl, rfl⟩⟩
end Go.Proofs.Ytneddobmlcbabaa
namespace Go.Proofs.Ytneddobmlcbabaa
open Go.SE
open Go.RowKit

theorem wrap64 {n : Int} (h : -9223372036854775808 ≤ n) (h2 : n ≤ 9223372036854775807) : IntKind.i64.wrap n = n := by
  simp [IntKind.wrap, IntKind.bits, IntKind.signed]; omega
theorem mostV_er {pv : PlaceT} (HN : PlaceN pv) {L : LookD} {j : JobD} {e : Int} (hm : mostV pv L j = .error e) : e ≠ 0 := by
  intro h0
  subst h0
  unfold mostV at hm
  split at hm
  · rename_i h; injection hm with hm; exact h hm
  · split at hm
    · rename_i h; injection hm with hm; exact h hm
    · split at hm
      · exact HN _ _ _ _ hm rfl
      · cases hm
theorem minI_eq (x y : Int) : minI x y = min x y := by
  unfold minI
  split <;> omega
theorem mixU_full (by_ : Int) (l : List UnitsD) : mixU by_ l l.length = l.map (moreU by_) := by simp [mixU]
theorem roomV_congr {s s' : ShapeD} (h : ∀ f, fitsF s f = fitsF s' f) (l : List FreeD) : roomV s l = roomV s' l := by
  unfold roomV
  congr 1
  funext n f
  rw [h f]
theorem more2 {pv : PlaceT} (PF : PlaceF pv) (HN : PlaceN pv) (L : LookD) (j : JobD) (by_ : Int) (hb0 : 0 ≤ by_) (hb1 : by_ ≤ 255) (A : Option Addr) (c : Nat) (hF : FewP L) (h : er (mostV pv L j) = 0) :
    er (mostV pv (moreL L by_ A c) (moreJ j by_)) = 0 ∧ (ls (mostV pv L j)).length ≤ (ls (mostV pv (moreL L by_ A c) (moreJ j by_))).length := by
  cases hm : mostV pv L j with
  | error e => rw [hm] at h; exact absurd h (mostV_er HN hm)
  | ok l =>
    obtain ⟨h1, h2, m, h3, h4⟩ := mostV_ok hm
    have hl := PF.len h4
    obtain ⟨h5, h6, h7⟩ := mostFrom_some h3
    obtain ⟨hck, hq1, hq2⟩ := leftE0 h1
    have hc := chk0 hck
    have hr0 : 0 ≤ by_.tmod 3 ∧ by_.tmod 3 ≤ 2 := by
      rw [Int.tmod_eq_emod_of_nonneg hb0]; omega
    have hmx : (moreJ j by_).sh.mx = min (j.sh.mx + by_.tmod 3) 16 := by
      show minI _ _ = _
      rw [minI_eq, wrap64 (n := by_.tmod 3) (by omega) (by omega), wrap64 (by omega) (by omega)]
    have hmx1 : j.sh.mx ≤ (moreJ j by_).sh.mx ∧ (moreJ j by_).sh.mx ≤ 16 := by rw [hmx]; omega
    have hck' : (moreJ j by_).sh.chk = 0 := by
      unfold ShapeD.chk checkV
      rw [if_pos]
      exact ⟨hc.1, hc.2.1, hc.2.2.1, hc.2.2.2.1, hc.2.2.2.2.1, by show j.sh.mn ≤ _; omega, by omega, hmx1.2, hc.2.2.2.2.2.2.2.2⟩
    have hll : (moreL L by_ A c).left.l = L.left.l.map (moreU by_) := mixU_full by_ L.left.l
    have hlen : (moreL L by_ A c).left.l.length = L.left.l.length := by rw [hll, List.length_map]
    have hE : leftE (moreL L by_ A c) (moreJ j by_) = 0 := by
      unfold leftE
      rw [if_neg (by simp [hck']), hlen]
      rw [if_neg]
      show ¬ (j.queue < 0 ∨ j.queue ≥ _)
      omega
    have hqn : j.queue.toNat < L.left.l.length := by omega
    have hu0 : leftU L j = L.left.l.getD j.queue.toNat default := by rw [leftU, if_pos h1]
    have hU : leftU (moreL L by_ A c) (moreJ j by_) = moreU by_ (leftU L j) := by
      rw [leftU, if_pos hE, hll, hu0]
      show (L.left.l.map (moreU by_)).getD j.queue.toNat default = _
      simp [List.getD_eq_getElem?_getD, hqn]
    have hup : unitsP (leftU L j) := by
      rw [hu0]
      exact hF.units _ (by simp [List.getD_eq_getElem?_getD, hqn])
    obtain ⟨u1, u2, u3, u4⟩ := hup
    have hge : (leftU L j).g ≤ (moreU by_ (leftU L j)).g ∧ (leftU L j).c ≤ (moreU by_ (leftU L j)).c := by
      unfold moreU
      simp only [minI_eq]
      rw [wrap64 (n := by_) (by omega) (by omega), wrap64 (by omega) (by omega), wrap64 (by omega) (by omega)]
      omega
    have hroom : roomV (moreJ j by_).sh L.view.l = roomV j.sh L.view.l := roomV_congr (fun f => by
      unfold fitsF fitsV
      rw [show checkV (moreJ j by_).sh.g (moreJ j by_).sh.c (moreJ j by_).sh.mn (moreJ j by_).sh.mx = 0 from hck', show checkV j.sh.g j.sh.c j.sh.mn j.sh.mx = 0 from hck]
      rfl) _
    have hwithin : ∀ n, withinV j.sh n (leftU L j) = true → withinV (moreJ j by_).sh n (moreU by_ (leftU L j)) = true := fun n hn => by
      have hun : unitsV (moreJ j by_).sh n = unitsV j.sh n := by
        unfold unitsV
        have : unitsOk (moreJ j by_).sh n ↔ unitsOk j.sh n := by unfold unitsOk; rw [hck', hck]
        by_cases hy : unitsOk j.sh n
        · rw [if_pos hy, if_pos (this.2 hy)]; rfl
        · rw [if_neg hy, if_neg (fun h => hy (this.1 h))]
      unfold withinV at hn ⊢
      rw [hun]
      simp only [Bool.and_eq_true, decide_eq_true_eq] at hn ⊢
      omega
    have hcan : ∀ n, canV L.view.l j.sh n (leftU L j) = 0 → canV (moreL L by_ A c).view.l (moreJ j by_).sh n (leftU (moreL L by_ A c) (moreJ j by_)) = 0 := fun n hn => by
      rw [canV0] at hn ⊢
      rw [hU]
      exact ⟨by show n ≤ roomV (moreJ j by_).sh L.view.l; rw [hroom]; exact hn.1, hwithin n hn.2⟩
    obtain ⟨m', hm', hle⟩ := mostFrom_finds (k := ((moreJ j by_).sh.mx - (moreJ j by_).sh.mn + 1).toNat) (n := (moreJ j by_).sh.mx) (hcan m h5) (by show _ - _ < m; have : (moreJ j by_).sh.mn = j.sh.mn := rfl; omega) (by omega)
    obtain ⟨g1, g2, g3⟩ := mostFrom_some hm'
    have hmost : mostV pv (moreL L by_ A c) (moreJ j by_) = pv L.view.l (moreJ j by_).sh m' := by
      rw [mostV, if_neg (by simp [hE]), if_neg (by rw [show (moreJ j by_).sh.mn = j.sh.mn from rfl, hcan _ h2]; simp)]
      rw [hm']
      rfl
    rw [canV0] at g1
    obtain ⟨l', hl'⟩ := PF.ok (v := L.view.l) (s := (moreJ j by_).sh) (n := m') (by have := hF.view; omega) (fun f hf => by
      obtain ⟨i, hi, rfl⟩ := List.getElem_of_mem hf
      have := hF.right i hi
      rw [List.getD_eq_getElem?_getD, List.getElem?_eq_getElem hi] at this
      exact ⟨this.1, this.2.1⟩) hck' (by have : (moreJ j by_).sh.mn = j.sh.mn := rfl; omega) (by omega) g1.1
    rw [hmost, hl']
    have := PF.len hl'
    exact ⟨rfl, by show l.length ≤ l'.length; omega⟩
end Go.Proofs.Ytneddobmlcbabaa
namespace Go.Proofs.Ytneddobmlcbabaa
open Go.SE
open Go.RowKit
set_option maxRecDepth 100000

theorem aw_most : mostFrom [⟨0, 0, 255, 0⟩] ⟨1, 0, 1, 7⟩ ⟨5, 0⟩ 7 7 = some 5 := by kernel_rfl
theorem aw_room : roomV ⟨1, 0, 1, 7⟩ [⟨0, 0, 255, 0⟩] = 8 := by kernel_rfl
theorem aw_can : canV [⟨0, 0, 255, 0⟩] ⟨1, 0, 1, 7⟩ 1 ⟨5, 0⟩ = 0 := by kernel_rfl
theorem aw_fact {pv : PlaceT} (PF : PlaceF pv) (A1 A2 : Option Addr) (c1 c2 : Nat) : er (mostV pv (awL A1 A2 c1 c2) awJ) = 0 ∧ (ls (mostV pv (awL A1 A2 c1 c2) awJ)).length = 5 := by
  have hE : leftE (awL A1 A2 c1 c2) awJ = 0 := by
    unfold leftE
    rw [if_neg (by decide), if_neg (by show ¬ ((0 : Int) < 0 ∨ (0 : Int) ≥ ((1 : Nat) : Int)); omega)]
  have hU : leftU (awL A1 A2 c1 c2) awJ = ⟨5, 0⟩ := by rw [leftU, if_pos hE]; rfl
  have hmost : mostV pv (awL A1 A2 c1 c2) awJ = pv [⟨0, 0, 255, 0⟩] ⟨1, 0, 1, 7⟩ 5 := by
    rw [mostV, if_neg (by simp [hE]), hU]
    rw [if_neg (by show ¬ canV [⟨0, 0, 255, 0⟩] ⟨1, 0, 1, 7⟩ 1 ⟨5, 0⟩ ≠ 0; rw [aw_can]; simp)]
    show (match mostFrom [⟨0, 0, 255, 0⟩] ⟨1, 0, 1, 7⟩ ⟨5, 0⟩ 7 7 with | some n => pv [⟨0, 0, 255, 0⟩] ⟨1, 0, 1, 7⟩ n | none => .error 7) = _
    rw [aw_most]
  obtain ⟨l, hl⟩ := PF.ok (v := [⟨0, 0, 255, 0⟩]) (s := ⟨1, 0, 1, 7⟩) (n := 5) (by decide) (fun f hf => by simp at hf; subst hf; exact ⟨by decide, by decide⟩) (by decide) (by decide) (by decide) (by rw [aw_room]; decide)
  rw [hmost, hl]
  have := PF.len hl
  exact ⟨rfl, by show l.length = 5; omega⟩
/-- The law's walk, over what is asked of Place and of fill.Safe alone. -/
theorem elasticMore_over {pv : PlaceT} {sf : SafeT} (HP : PlaceC pv) (HN : PlaceN pv) (PF : PlaceF pv) (HL : PlaceS pv) (HS : SafeC sf) (L : LookD) (j : JobD) (u by_ : Int) (hb0 : 0 ≤ by_) (hb1 : by_ ≤ 255) :
    PureC Try.prog 3 [.a L.cs, .a j.cs, i64 u, .v (.int .u8 by_)] Unit (fun _ => bo true) (fun _ => True) :=
  elasticMore_walk HP HN HL HS (awake_ok HP (aw_fact PF)) L j u by_ (fun _ => more1 PF sf L j u) (fun A c hF h => more2 PF HN L j by_ hb0 hb1 A c hF h)
end Go.Proofs.Ytneddobmlcbabaa
