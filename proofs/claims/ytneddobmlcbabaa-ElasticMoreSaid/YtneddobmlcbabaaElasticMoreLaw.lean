/- Proved: ElasticMore answers true at every input, and each of its arguments reads behind the call as it read before. Conditions: none. -/
import Derived.Test.YtneddobmlcbabaaWaO
import Derived.Test.YtneddobmlcbabaaWaN
import Derived.Test.YtneddobmlcbabaaWaM
import Derived.Test.YtneddobmlcbabaaRows
import Derived.ProofKit
import Derived.OpenShut
import Derived.ChangeOld
import Derived.Below
import Derived.Carry
set_option linter.unusedVariables false
set_option linter.unusedSimpArgs false
set_option linter.unusedVariables false
namespace Go.Proofs.Ytneddobmlcbabaa
open Go.SE

theorem elasticMore_all (L : LookD) (j : JobD) (u by_ : Int) (hb0 : 0 ≤ by_) (hb1 : by_ ≤ 255) :
    PureC Try.prog 3 [.a L.cs, .a j.cs, i64 u, .v (.int .u8 by_)] Unit (fun _ => bo true) (fun _ => True) :=
  elasticMore_over place_ok placeN placeF placeS safe14_ok L j u by_ hb0 hb1
namespace elasticMore
open Go.ChangeShapes Go.WideShapes Go.ChangeAt Go.RowKit
theorem own : ownKnob Try.prog.godebug = none := by kernel_rfl
theorem laidOut : laidOutB Try.prog = true := by kernel_rfl
theorem okWide_agg {P : Program} {w : World} {r : Reach} {base : Nat} {t : TypeId} {fs : Array Field} {v : Value} (ht : P.underlying t = some (.struct fs)) (h : Value.okWide P w r base t v) : ∃ cs, v = .agg cs := by
  simp only [Value.okWide, ht] at h
  obtain ⟨cs, h, _⟩ := h
  exact ⟨cs, h⟩
set_option maxRecDepth 100000 in
theorem lifted (os : Os) (started : os.Started) (H : Type) (enc : TypeId × Value → H) :
    ReturnsInHanded {} Try.checked os 3 .any (Rows.elasticMoreSpec.pre6 enc Try.prog Try.f3 Rows.elasticMoreRow.domain false) (Rows.elasticMoreSpec.post enc Try.prog Try.f3 false true false false) := by
  refine returnsInHanded_of_change (C := Try.checked) own started (by kernel_rfl) Try.func3
    (ChangeSpec.witness6 (enc := enc) (C := Try.checked) false ⟨#[], #[.agg #[.int .i64 0, .int .i64 0, .int .i64 0, .int .i64 0, .slice none 0 0, .slice none 0 0, .slice none 0 0, .slice none 0 0, .slice none 0 0], .agg #[.int .i64 0, .int .i64 0, .int .i64 0, .int .i64 0, .int .i64 0, .int .i64 0, .int .i64 0, .int .i64 0], .int .i64 0, .int .u8 0], []⟩ 8 (by kernel_rfl) (by kernel_rfl) (by kernel_rfl) (by kernel_rfl)) ?_
  intro W base args ds gs before hval0 hW hcnd _
  have hval : ∀ (j : Nat) t v, Try.f3.params[j]? = some t → args[j]? = some v → Value.okWide Try.prog W .any base t v := hval0
  have hW' := hW
  obtain ⟨p, q, hA0, hV, rfl, hfz, hnd⟩ := hW
  have hA : DataW.TrodAll enc Try.prog W 0 (fun _ => true) true Try.f3.params.toList args.toList ds p := hA0
  rw [Try.params3] at hA hval
  obtain ⟨v0, vs0, d0, ds0, p0, q0, hargs, rfl, rfl, h0, r0⟩ := trodAll_cons hA
  obtain ⟨v1, vs1, d1, ds1, p1, q1, rfl, rfl, rfl, h1, r1⟩ := trodAll_cons r0
  obtain ⟨v2, vs2, d2, ds2, p2, q2, rfl, rfl, rfl, h2, r2⟩ := trodAll_cons r1
  obtain ⟨v3, vs3, d3, ds3, p3, q3, rfl, rfl, rfl, h3, r3⟩ := trodAll_cons r2
  obtain ⟨rfl, rfl, rfl⟩ := trodAll_nil r3
  obtain rfl : args = #[v0, v1, v2, v3] := by cases args; simp_all
  obtain ⟨rfl, rfl⟩ := trodVars_none hV
  obtain ⟨c0, rfl⟩ := okWide_agg Try.underlying28 (hval 0 28 v0 rfl rfl)
  obtain ⟨c1, rfl⟩ := okWide_agg Try.underlying32 (hval 1 32 v1 rfl rfl)
  have k0 := h0
  have k1 := h1
  have lt0 : ∀ x ∈ p0, x.block < W.heap.size := by obtain ⟨m, hm⟩ := k0; exact DataW.trod_lt m _ _ _ hm
  have lt1 : ∀ x ∈ p1, x.block < W.heap.size := by obtain ⟨m, hm⟩ := k1; exact DataW.trod_lt m _ _ _ hm
  obtain ⟨L, e0, o0⟩ : ∃ L : LookD, c0 = (dens E0 L.cs).toArray ∧ ∀ u ∈ L.cs, Ok 0 (fun _ => False) W u := by
    obtain ⟨m, hm⟩ := h0
    obtain ⟨L, e, o⟩ := look_reads W enc 0 (fun _ => true) true m _ _ hm
    exact ⟨L, by rw [← e]; rfl, o⟩
  obtain ⟨J, e1, o1⟩ : ∃ J : JobD, c1 = (dens E0 J.cs).toArray ∧ ∀ u ∈ J.cs, Ok 0 (fun _ => False) W u := by
    obtain ⟨m, hm⟩ := h1
    obtain ⟨L, e, o⟩ := job_reads W enc 0 (fun _ => true) true m _ _ hm
    exact ⟨L, by rw [← e]; rfl, o⟩
  subst e0
  subst e1
  obtain ⟨a2, rfl, rfl, rfl, w2⟩ := open_int Try.underlying3 (hval 2 3 v2 rfl rfl) h2
  obtain ⟨a3, rfl, rfl, rfl, w3⟩ := open_int Try.underlying5 (hval 3 5 v3 rfl rfl) h3
  clear hA0 hval0
  have b3 : 0 ≤ a3 ∧ a3 ≤ 255 := by
    simp [Lit.wf, IntKind.min, IntKind.max, IntKind.signed, IntKind.bits] at w3
    omega
  have hc := (elasticMore_all L J a2 a3 b3.1 b3.2).calls (fun _ => False) W (fun b h => h.elim) (fun u hu => by
    simp only [List.mem_cons, List.not_mem_nil, or_false] at hu
    rcases hu with rfl | rfl | rfl | rfl
    · exact .a o0
    · exact .a o1
    · exact .v _
    · exact .v _)
  refine Calls.mono (show Calls Try.prog 3 #[.agg (dens E0 L.cs).toArray, .agg (dens E0 J.cs).toArray, .int .i64 a2, .int .u8 a3] W _ from hc) fun e W' he => ?_
  obtain ⟨_, _, rfl, _, bel⟩ := he
  exact ⟨_, rfl, _, _, _, [], _, [], hW', trodAll_mk1 (shut_bool Try.underlying4 _), (trodAll_cons_mk (Below.trod laidOut (by kernel_rfl) (of_decide_eq_true (by kernel_rfl)) k0 bel lt0) (trodAll_cons_mk (Below.trod laidOut (by kernel_rfl) (of_decide_eq_true (by kernel_rfl)) k1 bel lt1) (trodAll_cons_mk (shut_int Try.underlying3 w2) (trodAll_cons_mk (shut_int Try.underlying5 w3) trodAll_mk0)))), rfl, bel.frame _, fun h => by cases h⟩
theorem over : Rows.elasticMoreRow.holds Try.pinned (OpenSpec.ofChange Rows.elasticMoreSpec) :=
  OpenClaim.holds_of_wide 3 Try.f3 rfl rfl rfl rfl rfl rfl rfl ⟨rfl, rfl, rfl, rfl, rfl⟩ rfl rfl rfl rfl rfl (by kernel_rfl) Try.func3 (by kernel_rfl)
    (of_decide_eq_true (by kernel_rfl)) (by unfold Func.isWrapper; first | (rw [if_pos (by decide +kernel)]; kernel_rfl) | (rw [if_neg (by decide +kernel)]; exact ⟨rfl, rfl⟩))
    (fun os started H enc _ => lifted os started H enc)
end elasticMore
/-- The row, under a short name, for the claim. -/
theorem elasticMore_holds : Rows.ElasticMoreSaid := elasticMore.over
#print axioms elasticMore_holds
end Go.Proofs.Ytneddobmlcbabaa
