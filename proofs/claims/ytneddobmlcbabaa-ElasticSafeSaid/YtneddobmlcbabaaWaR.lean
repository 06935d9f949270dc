/- A walk by symbols over the given program, a part of it: lemmas alone; what is claimed stands in the last text. No conditions of its own. -/
import Derived.Test.YtneddobmlcbabaaWaQ
set_option linter.unusedVariables false
set_option linter.unusedSimpArgs false
namespace Go.Proofs.Ytneddobmlcbabaa
open Go.SE
open Go.RowKit
set_option maxRecDepth 100000
set_option maxHeartbeats 4000000

def MaskP (L : LookD) : Prop := (∀ f ∈ L.view.l, inM f) ∧ ∀ h ∈ L.ends.l, ∀ s ∈ h.slots.l, inM s
theorem fewP_fair {L : LookD} (hF : FewP L) (hM : MaskP L) {u : UnitsD} (hu : u ∈ L.left.l) : FairP L.view.l L.ends.l u := by
  refine ⟨fun f hf => ⟨?_, hM.1 f hf⟩, rightP_dist hF.right, hF.view, hF.ends, hF.slots, hM.2, hF.more, hF.units u hu⟩
  obtain ⟨i, hi, rfl⟩ := List.getElem_of_mem hf
  have := hF.right i hi
  rw [List.getD_eq_getElem?_getD, List.getElem?_eq_getElem hi] at this
  exact ⟨this.1, this.2.1⟩
theorem elasticSafe_ok (L : LookD) (j : JobD) (u : Int) (h : HoldD) (hM : MaskP L) : PureC Try.prog 4 [.a L.cs, .a j.cs, i64 u, .a h.cs] Unit (fun _ => bo true) (fun _ => True) := by
  refine pureC_intro Try.func4 rfl rfl rfl (fun _ => rfl) (Nat.le_of_ble_eq_true rfl) fun XC w0 => ?_
  refine p_call (n := 60) C (awake_ok place_ok (aw_fact placeF)) rfl rfl fun _ _ => ?_
  refine p_br (n := 60) C rfl (fun h => absurd h (by decide)) (fun _ => ?_)
  refine p_call (n := 60) C (few14_ok L) rfl rfl fun y hy => ?_
  refine p_br (n := 60) C rfl (fun hq => ?_) (fun hq => ?_)
  · refine p_br (n := 60) C rfl (fun _ => ?_) (fun h => absurd h (by decide))
    exact p_ret (n := 60) C Try.func4 rfl rfl rfl rfl () trivial rfl rfl
  have hF : FewP L := hy (by simpa using hq)
  have hB : Big L := hF.big
  refine p_br (n := 60) C rfl (fun hq2 => ?_) (fun hq2 => ?_)
  · exact p_ret (n := 60) C Try.func4 rfl rfl rfl rfl () trivial rfl rfl
  have hh40 : ¬ (h.slots.l.length : Int) > 40 := of_decide_eq_false hq2
  refine p_call (n := 60) C (PureC.uni (fill_ok place_ok placeN placeS safe14_ok L j u hB hF)) rfl rfl fun y1 _ => ?_
  refine p_call (n := 60) C (PureC.uni (most_ok place_ok L j hB)) rfl rfl fun y2 _ => ?_
  refine p_call (n := 60) C (grow_ok L h j hF (by omega)) rfl rfl fun _ _ => ?_
  refine p_call (n := 60) C (head_ok L hB) rfl rfl fun _ _ => ?_
  refine p_weaken (st1 := ⟨[(57, .t [.a (headW (headV L.head L.waits.l)).cs, bo (headV L.head L.waits.l).isSome]), (2, i64 u), (4, .p 0 0), (5, .p 1 0), (7, .p 2 0), (9, Sl.sv 4 FreeD.cs ⟨y1.1, y1.2, ls (fillV placeV sfV L j u)⟩), (10, i64 (er (fillV placeV sfV L j u))), (11, Sl.sv 4 FreeD.cs ⟨y2.1, y2.2, ls (mostV placeV L j)⟩), (12, i64 (er (mostV placeV L j))), (13, .p 3 0), (14, i64 (growE L h j))], [(3, .cells (growS L h j).cs 49), (2, .cells h.cs 44), (1, .cells j.cs 32), (0, .cells L.cs 28)], 197, 4, [], []⟩) id ?_ (.inl rfl) rfl ⟨rfl, rfl, rfl, rfl, rfl, rfl, rfl, rfl, rfl, rfl, rfl, rfl, rfl, rfl, rfl, rfl, rfl, rfl, rfl, rfl, rfl, rfl, trivial⟩ ⟨⟨rfl, rfl, rfl⟩, Nat.le_of_ble_eq_true rfl, ⟨rfl, rfl, rfl⟩, Nat.le_of_ble_eq_true rfl, ⟨rfl, rfl, rfl⟩, Nat.le_of_ble_eq_true rfl, ⟨rfl, rfl, rfl⟩, Nat.le_of_ble_eq_true rfl, trivial⟩ rfl rfl rfl trivial
  have hfm := fill_most (L := L) (j := j) (u := u)
  have hml : (ls (mostV placeV L j)).length ≤ 20 := by
    cases hm : mostV placeV L j with
    | error e => simp [ls]
    | ok l => obtain ⟨_, _, m, _, h4⟩ := mostV_ok hm; exact placeS _ _ _ _ h4
  cases hh : headV L.head L.waits.l with
  | none =>
    have hfree := fill_free (L := L) (j := j) (u := u) (fun n => safeV_free (.inl hh))
    refine p_br (n := 60) C rfl (fun _ => ?_) (fun h => absurd h (by decide))
    refine p_br (n := 60) C rfl (fun _ => ?_) (fun h => absurd h (by decide))
    refine p_br (n := 60) C rfl (fun _ => ?_) (fun hr => absurd (show (er (fillV placeV sfV L j u) == er (mostV placeV L j)) = false from hr) (by rw [hfree]; simp))
    refine p_call (n := 60) C (same_ok ⟨y1.1, y1.2, ls (fillV placeV sfV L j u)⟩ ⟨y2.1, y2.2, ls (mostV placeV L j)⟩ (by show List.length (ls _) < _; omega)) rfl rfl fun y3 hy3 => ?_
    have hy4 : y3 = true := hy3 (by rw [hfree])
    subst hy4
    exact p_ret (n := 60) C Try.func4 rfl rfl rfl rfl () trivial rfl rfl
  | some w =>
    refine p_br (n := 60) C rfl (fun h => absurd h (by simp)) (fun _ => ?_)
    refine p_br (n := 60) C rfl (fun hr1 => ?_) (fun hr1 => ?_)
    · have h1 : j.id = L.head := by simpa using hr1
      have hfree := fill_free (L := L) (j := j) (u := u) (fun n => safeV_free (.inr h1))
      refine p_br (n := 60) C rfl (fun _ => ?_) (fun hr => absurd (show (er (fillV placeV sfV L j u) == er (mostV placeV L j)) = false from hr) (by rw [hfree]; simp))
      refine p_call (n := 60) C (same_ok ⟨y1.1, y1.2, ls (fillV placeV sfV L j u)⟩ ⟨y2.1, y2.2, ls (mostV placeV L j)⟩ (by show List.length (ls _) < _; omega)) rfl rfl fun y3 hy3 => ?_
      have hy4 : y3 = true := hy3 (by rw [hfree])
      subst hy4
      exact p_ret (n := 60) C Try.func4 rfl rfl rfl rfl () trivial rfl rfl
    have h1 : ¬ j.id = L.head := by simpa using hr1
    have F3 : (w.queue < 0 ∨ w.queue ≥ (L.left.l.length : Int)) → er (fillV placeV sfV L j u) ≠ 0 ∧ growE L h j ≠ 0 := fun hq => ⟨fill_no (fun n => safeV_out hh h1 hq), grow_no (fun sl => safeV_out hh h1 hq)⟩
    have F4 : ¬ (w.queue < 0 ∨ w.queue ≥ (L.left.l.length : Int)) → er (fillV placeV sfV L j u) = 0 → (sfV L.now L.view.l (L.left.l.getD w.queue.toNat default) L.ends.l w L.promise j.queue u (ls (fillV placeV sfV L j u))).1 = true ∧ (ls (fillV placeV sfV L j u)).length ≤ 20 := fun hin h7 => by
      obtain ⟨s1, s2⟩ := fill_safe (er_ok (fun e he => fill_er he) h7)
      rw [safeV_in hh h1 hin] at s1
      exact ⟨s1, s2⟩
    have F5 : ¬ (w.queue < 0 ∨ w.queue ≥ (L.left.l.length : Int)) → growE L h j = 0 → (sfV L.now L.view.l (L.left.l.getD w.queue.toNat default) L.ends.l w L.promise j.queue h.until_ [growS L h j]).1 = true := fun hin h7 => by
      have s1 := grow_0 hF h7
      rw [safeV_in hh h1 hin] at s1
      exact s1
    have F6 : ¬ (w.queue < 0 ∨ w.queue ≥ (L.left.l.length : Int)) → growE L h j = 0 → (earlR L.now L.view.l (L.left.l.getD w.queue.toNat default) L.ends.l w).2 = 0 ∧ ((earlR L.now L.view.l (L.left.l.getD w.queue.toNat default) L.ends.l w).1 ≤ L.promise ∨ (earlR L.now L.view.l (L.left.l.getD w.queue.toNat default) L.ends.l w).1 ≤ L.now) := fun hin h7 => by
      have hleft : L.left.l.getD w.queue.toNat default ∈ L.left.l := by
        have : w.queue.toNat < L.left.l.length := by omega
        simp [List.getD_eq_getElem?_getD, this]
      exact safe_early (sl := [growS L h j]) (fewP_fair hF hM hleft) (by simp) (F5 hin h7)
    generalize fillV placeV sfV L j u = rs at *
    generalize mostV placeV L j = ra at *
    generalize growE L h j = ge at *
    generalize growS L h j = gs at *
    have hlen : ¬ ((ls rs).length : Int) > ((ls ra).length : Int) := by have := hfm.2; omega
    have hne : er ra ≠ 0 → er rs = er ra := hfm.1
    refine p_br (n := 60) C rfl (fun hr2 => ?_) (fun hr2 => ?_)
    have h2 : er ra ≠ 0 := by simpa using hr2
    refine p_br (n := 60) C rfl (fun hr3 => absurd (show (er rs != er ra) = true from hr3) (by rw [hne h2]; simp)) (fun hr3 => ?_)
    refine p_br (n := 60) C rfl (fun hr4 => absurd (of_decide_eq_true hr4) hlen) (fun hr4 => ?_)
    rotate_left
    refine p_br (n := 60) C rfl (fun hr3 => absurd hr3 (by decide)) (fun hr3 => ?_)
    refine p_br (n := 60) C rfl (fun hr4 => absurd (of_decide_eq_true hr4) hlen) (fun hr4 => ?_)
    all_goals
      refine p_br (n := 60) C rfl (fun hr5 => ?_) (fun hr5 => ?_)
      · have h5 : w.queue < 0 := of_decide_eq_true hr5
        have n1 := (F3 (.inl h5)).1
        have n2 := (F3 (.inl h5)).2
        refine p_br (n := 60) C rfl (fun _ => ?_) (fun h => absurd h (by decide))
        refine p_br (n := 60) C rfl (fun _ => ?_) (fun hr6 => absurd (show (er rs != 0) = false from hr6) (by simp [n1]))
        exact p_ret (n := 60) C Try.func4 rfl rfl rfl rfl () trivial (by show SV.v (.bool (ge != 0)) = _; simp [n2, bo]) rfl
      have h5 : ¬ w.queue < 0 := of_decide_eq_false hr5
      refine p_br (n := 60) C rfl (fun hr6 => ?_) (fun hr6 => ?_)
      · have h6 : w.queue ≥ (L.left.l.length : Int) := of_decide_eq_true hr6
        have n1 := (F3 (.inr h6)).1
        have n2 := (F3 (.inr h6)).2
        refine p_br (n := 60) C rfl (fun _ => ?_) (fun hr7 => absurd (show (er rs != 0) = false from hr7) (by simp [n1]))
        exact p_ret (n := 60) C Try.func4 rfl rfl rfl rfl () trivial (by show SV.v (.bool (ge != 0)) = _; simp [n2, bo]) rfl
      have h6 : ¬ w.queue ≥ (L.left.l.length : Int) := of_decide_eq_false hr6
      have hin : ¬ (w.queue < 0 ∨ w.queue ≥ (L.left.l.length : Int)) := by omega
      have F4 := F4 hin
      have F5 := F5 hin
      refine p_need (n := 60) C rfl (show (0 : Int) ≤ w.queue ∧ w.queue < (L.left.l.length : Int) by omega) ?_
      have F6 := F6 hin
      refine p_br (n := 60) C rfl (fun hr7 => ?_) (fun hr7 => ?_)
      all_goals
        refine p_weaken (st1 := ⟨[(2, i64 u), (4, .p 0 0), (5, .p 1 0), (7, .p 2 0), (9, Sl.sv 4 FreeD.cs ⟨y1.1, y1.2, ls rs⟩), (13, .p 3 0), (14, i64 ge), (15, .p 4 0), (17, .p 5 0)], [(5, .cells (L.left.l.getD w.queue.toNat default).cs 41), (4, .cells w.cs 53), (3, .cells gs.cs 49), (2, .cells h.cs 44), (1, .cells j.cs 32), (0, .cells L.cs 28)], 197, 6, [], []⟩) id ?_ (.inl rfl) rfl ⟨rfl, rfl, rfl, rfl, rfl, rfl, rfl, rfl, rfl, rfl, rfl, rfl, rfl, rfl, rfl, rfl, rfl, rfl, trivial⟩ ⟨⟨rfl, rfl, rfl⟩, Nat.le_of_ble_eq_true rfl, ⟨rfl, rfl, rfl⟩, Nat.le_of_ble_eq_true rfl, ⟨rfl, rfl, rfl⟩, Nat.le_of_ble_eq_true rfl, ⟨rfl, rfl, rfl⟩, Nat.le_of_ble_eq_true rfl, ⟨rfl, rfl, rfl⟩, Nat.le_of_ble_eq_true rfl, ⟨rfl, rfl, rfl⟩, Nat.le_of_ble_eq_true rfl, trivial⟩ rfl rfl rfl trivial
      have h7 : er rs = 0 := by simpa using hr7
      have s1 := (F4 h7).1
      have s3 := sfV_2 s1
      refine p_call (n := 60) C (safe14_ok L.now L.promise L.view (L.left.l.getD w.queue.toNat default) L.ends w ⟨0, j.queue, u, false, ⟨y1.1, y1.2, ls rs⟩⟩ ⟨hF.view, hF.ends, hF.slots, (F4 h7).2⟩) rfl rfl fun _ _ => ?_
      refine p_br (n := 60) C rfl (fun h => absurd (show (!(sfV L.now L.view.l (L.left.l.getD w.queue.toNat default) L.ends.l w L.promise j.queue u (ls rs)).1) = true from h) (by rw [s1]; simp)) (fun _ => ?_)
      refine p_br (n := 60) C rfl (fun h => absurd (show ((sfV L.now L.view.l (L.left.l.getD w.queue.toNat default) L.ends.l w L.promise j.queue u (ls rs)).2 != 0) = true from h) (by rw [s3]; simp)) (fun _ => ?_)
      rotate_left
      all_goals
        refine p_br (n := 60) C rfl (fun hr8 => ?_) (fun hr8 => ?_)
        rotate_left
        · exact p_ret (n := 60) C Try.func4 rfl rfl rfl rfl () trivial rfl rfl
        have h8 : ge = 0 := by simpa using hr8
        have s5 := F5 h8
        have s6 := sfV_2 s5
        have sE1 := (F6 h8).1
        have sE2 := (F6 h8).2
        have hends : L.ends.l.length ≤ 100 := Nat.le_trans hF.ends (by decide)
        refine p_call (n := 60) C (earlR_ok L.now L.view (L.left.l.getD w.queue.toNat default) L.ends w hB.view hends hF.slots) rfl rfl fun _ _ => ?_
        refine p_at (n := 60) C rfl ?_
        refine p_row 6 (fun i => (([gs] : List FreeD).getD i default).cs) rfl (fun i hi => by
          have hi : i = 0 := Nat.lt_one_iff.1 hi
          subst hi; rfl) ?_
        refine p_frz 6 rfl fun A c => ?_
        refine p_call (n := 60) C (safe14_ok L.now L.promise L.view (L.left.l.getD w.queue.toNat default) L.ends w ⟨0, j.queue, h.until_, false, ⟨A, c, [gs]⟩⟩ ⟨hF.view, hF.ends, hF.slots, (by show 1 ≤ 20; omega)⟩) rfl rfl fun _ _ => ?_
        generalize sfV L.now L.view.l (L.left.l.getD w.queue.toNat default) L.ends.l w L.promise j.queue h.until_ [gs] = sR at *
        generalize earlR L.now L.view.l (L.left.l.getD w.queue.toNat default) L.ends.l w = eR at *
        refine p_br (n := 60) C rfl (fun _ => ?_) (fun hr => absurd (show (eR.2 == 0) = false from hr) (by rw [sE1]; simp))
        refine p_br (n := 60) C rfl (fun _ => ?_) (fun hr => absurd (show (sR.2 == 0) = false from hr) (by rw [s6]; simp))
        refine p_br (n := 60) C rfl (fun _ => ?_) (fun hr => absurd (show sR.1 = false from hr) (by rw [s5]; simp))
        refine p_br (n := 60) C rfl (fun hr => ?_) (fun hr => ?_)
        · exact p_ret (n := 60) C Try.func4 rfl rfl rfl rfl () trivial rfl rfl
        · have hn : ¬ eR.1 ≤ L.promise := of_decide_eq_false hr
          have hy : eR.1 ≤ L.now := sE2.resolve_left hn
          exact p_ret (n := 60) C Try.func4 rfl rfl rfl rfl () trivial (by show SV.v (.bool (decide (eR.1 ≤ L.now))) = _; rw [decide_eq_true hy]; rfl) rfl
end Go.Proofs.Ytneddobmlcbabaa
