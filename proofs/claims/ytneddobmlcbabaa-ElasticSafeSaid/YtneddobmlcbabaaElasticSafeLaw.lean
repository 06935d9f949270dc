/- Proved: ElasticSafe answers true at every input, and each of its arguments reads behind the call as it read before. Conditions: none. -/
import Derived.Test.YtneddobmlcbabaaWaO
import Derived.Test.YtneddobmlcbabaaWaR
import Derived.Test.YtneddobmlcbabaaRows
import Derived.ProofKit
import Derived.OpenShut
import Derived.ChangeOld
import Derived.Below
import Derived.Carry
set_option linter.unusedVariables false
set_option linter.unusedSimpArgs false
set_option linter.unusedVariables false
namespace Go.Proofs.Ytneddobmlcbabaa
open Go.SE

namespace elasticSafe
open Go.ChangeShapes Go.WideShapes Go.ChangeAt Go.RowKit
theorem own : ownKnob Try.prog.godebug = none := by kernel_rfl
theorem laidOut : laidOutB Try.prog = true := by kernel_rfl
theorem okWide_agg {P : Program} {w : World} {r : Reach} {base : Nat} {t : TypeId} {fs : Array Field} {v : Value} (ht : P.underlying t = some (.struct fs)) (h : Value.okWide P w r base t v) : ∃ cs, v = .agg cs := by
  simp only [Value.okWide, ht] at h
  obtain ⟨cs, h, _⟩ := h
  exact ⟨cs, h⟩
set_option maxRecDepth 100000 in
theorem lifted (os : Os) (started : os.Started) (H : Type) (enc : TypeId × Value → H) :
    ReturnsInHanded {} Try.checked os 4 .any (Rows.elasticSafeSpec.pre6 enc Try.prog Try.f4 Rows.elasticSafeRow.domain false) (Rows.elasticSafeSpec.post enc Try.prog Try.f4 false true false false) := by
  refine returnsInHanded_of_change (C := Try.checked) own started (by kernel_rfl) Try.func4
    (ChangeSpec.witness6 (enc := enc) (C := Try.checked) false ⟨#[], #[.agg #[.int .i64 0, .int .i64 0, .int .i64 0, .int .i64 0, .slice none 0 0, .slice none 0 0, .slice none 0 0, .slice none 0 0, .slice none 0 0], .agg #[.int .i64 0, .int .i64 0, .int .i64 0, .int .i64 0, .int .i64 0, .int .i64 0, .int .i64 0, .int .i64 0], .int .i64 0, .agg #[.int .i64 0, .int .i64 0, .int .i64 0, .bool false, .slice none 0 0]], []⟩ 8 (by kernel_rfl) (by kernel_rfl) (by kernel_rfl) (by kernel_rfl)) ?_
  intro W base args ds gs before hval0 hW hcnd _
  have hval : ∀ (j : Nat) t v, Try.f4.params[j]? = some t → args[j]? = some v → Value.okWide Try.prog W .any base t v := hval0
  have hW' := hW
  obtain ⟨p, q, hA0, hV, rfl, hfz, hnd⟩ := hW
  have hA : DataW.TrodAll enc Try.prog W 0 (fun _ => true) true Try.f4.params.toList args.toList ds p := hA0
  rw [Try.params4] at hA hval
  obtain ⟨v0, vs0, d0, ds0, p0, q0, hargs, rfl, rfl, h0, r0⟩ := trodAll_cons hA
  obtain ⟨v1, vs1, d1, ds1, p1, q1, rfl, rfl, rfl, h1, r1⟩ := trodAll_cons r0
  obtain ⟨v2, vs2, d2, ds2, p2, q2, rfl, rfl, rfl, h2, r2⟩ := trodAll_cons r1
  obtain ⟨v3, vs3, d3, ds3, p3, q3, rfl, rfl, rfl, h3, r3⟩ := trodAll_cons r2
  obtain ⟨rfl, rfl, rfl⟩ := trodAll_nil r3
  obtain rfl : args = #[v0, v1, v2, v3] := by cases args; simp_all
  obtain ⟨rfl, rfl⟩ := trodVars_none hV
  obtain ⟨c0, rfl⟩ := okWide_agg Try.underlying28 (hval 0 28 v0 rfl rfl)
  obtain ⟨c1, rfl⟩ := okWide_agg Try.underlying32 (hval 1 32 v1 rfl rfl)
  have k0 := h0
  have k1 := h1
  have lt0 : ∀ x ∈ p0, x.block < W.heap.size := by obtain ⟨m, hm⟩ := k0; exact DataW.trod_lt m _ _ _ hm
  have lt1 : ∀ x ∈ p1, x.block < W.heap.size := by obtain ⟨m, hm⟩ := k1; exact DataW.trod_lt m _ _ _ hm
  obtain ⟨L, e0, o0, hM⟩ : ∃ L : LookD, c0 = (dens E0 L.cs).toArray ∧ (∀ u ∈ L.cs, Ok 0 (fun _ => False) W u) ∧ MaskP L := by
    obtain ⟨m, hm⟩ := h0
    obtain ⟨L, e, o, q⟩ := look_reads W enc 0 (fun _ => true) true m _ _ hm
    exact ⟨L, by rw [← e]; rfl, o, q⟩
  obtain ⟨J, e1, o1⟩ : ∃ J : JobD, c1 = (dens E0 J.cs).toArray ∧ ∀ u ∈ J.cs, Ok 0 (fun _ => False) W u := by
    obtain ⟨m, hm⟩ := h1
    obtain ⟨L, e, o, _⟩ := job_reads W enc 0 (fun _ => true) true m _ _ hm
    exact ⟨L, by rw [← e]; rfl, o⟩
  subst e0
  subst e1
  obtain ⟨a2, rfl, rfl, rfl, w2⟩ := open_int Try.underlying3 (hval 2 3 v2 rfl rfl) h2
  obtain ⟨c3, rfl⟩ := okWide_agg Try.underlying44 (hval 3 44 v3 rfl rfl)
  have k3 := h3
  have lt3 : ∀ x ∈ p3, x.block < W.heap.size := by obtain ⟨m, hm⟩ := k3; exact DataW.trod_lt m _ _ _ hm
  obtain ⟨Hd, e3, o3⟩ : ∃ Hd : HoldD, c3 = (dens E0 Hd.cs).toArray ∧ ∀ u ∈ Hd.cs, Ok 0 (fun _ => False) W u := by
    obtain ⟨m, hm⟩ := h3
    obtain ⟨L, e, o, _⟩ := hold_reads W enc 0 (fun _ => true) true m _ _ hm
    exact ⟨L, by rw [← e]; rfl, o⟩
  subst e3
  clear hA0 hval0
  have hc := (elasticSafe_ok L J a2 Hd hM).calls (fun _ => False) W (fun b h => h.elim) (fun u hu => by
    simp only [List.mem_cons, List.not_mem_nil, or_false] at hu
    rcases hu with rfl | rfl | rfl | rfl
    · exact .a o0
    · exact .a o1
    · exact .v _
    · exact .a o3)
  refine Calls.mono (show Calls Try.prog 4 #[.agg (dens E0 L.cs).toArray, .agg (dens E0 J.cs).toArray, .int .i64 a2, .agg (dens E0 Hd.cs).toArray] W _ from hc) fun e W' he => ?_
  obtain ⟨_, _, rfl, _, bel⟩ := he
  exact ⟨_, rfl, _, _, _, [], _, [], hW', trodAll_mk1 (shut_bool Try.underlying4 _), (trodAll_cons_mk (Below.trod laidOut (by kernel_rfl) (of_decide_eq_true (by kernel_rfl)) k0 bel lt0) (trodAll_cons_mk (Below.trod laidOut (by kernel_rfl) (of_decide_eq_true (by kernel_rfl)) k1 bel lt1) (trodAll_cons_mk (shut_int Try.underlying3 w2) (trodAll_cons_mk (Below.trod laidOut (by kernel_rfl) (of_decide_eq_true (by kernel_rfl)) k3 bel lt3) trodAll_mk0)))), rfl, bel.frame _, fun h => by cases h⟩
theorem over : Rows.elasticSafeRow.holds Try.pinned (OpenSpec.ofChange Rows.elasticSafeSpec) :=
  OpenClaim.holds_of_wide 4 Try.f4 rfl rfl rfl rfl rfl rfl rfl ⟨rfl, rfl, rfl, rfl, rfl⟩ rfl rfl rfl rfl rfl (by kernel_rfl) Try.func4 (by kernel_rfl)
    (of_decide_eq_true (by kernel_rfl)) (by unfold Func.isWrapper; first | (rw [if_pos (by decide +kernel)]; kernel_rfl) | (rw [if_neg (by decide +kernel)]; exact ⟨rfl, rfl⟩))
    (fun os started H enc _ => lifted os started H enc)
end elasticSafe
/-- The row, under a short name, for the claim. -/
theorem elasticSafe_holds : Rows.ElasticSafeSaid := elasticSafe.over
#print axioms elasticSafe_holds
end Go.Proofs.Ytneddobmlcbabaa
