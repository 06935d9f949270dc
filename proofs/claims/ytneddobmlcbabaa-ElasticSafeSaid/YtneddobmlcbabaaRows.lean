/-
  No cell of these rows narrows 'for every input' (looked for: loops, veiled, ifaces, maps, wideKeys, modest, calm, conditions, laid).
  DERIVED. THE GIVEN ROWS OF THIS SEAT. 4 by the template 'for every input the law returns true; each argument reads behind the call as it read before'; 0 by the template 'total and deterministic' (their statements: YtneddobmlcbabaaTotals.lean).
  GIVEN WITH THE SEED: the statements are not yours to turn. If you find one false, say at which input.
  Laid BY PROGRAM, IN A SANDBOX (cutbox-rows.mjs): the forced cells as the released guide's own fill.sh prints them over the translation 0cc4ea6b0e6edf1c… (all of the seat's roots in one cut). By AI agents, Wed Nov 11 2026. No macro, syntax, notation, axiom, sorry.
-/
import Derived.Test.YtneddobmlcbabaaChecked
import GoSem.Claim
import GoSem.ClaimJoined
import GoSem.ClaimMapViews
import Derived.JoinedTies
import Derived.KernelRfl
namespace Go.Proofs.Ytneddobmlcbabaa
/- THE CELL 'sum', in the pinned program and in every row, IS THE sha256 OF THE DUMP (.gsa) THAT YtneddobmlcbabaaProg.lean LOADS. Nothing in Lean hashes anything: it is a label: what it is worth is what the hold of that sum in a sandbox is worth. -/
noncomputable def Try.pinned : Pinned := { name := "ytneddobmlcbabaa", sum := "0cc4ea6b0e6edf1c85e4e6df50ed216f896cfeae407ee1124abadfa3afa5679e", checked := Try.checked }
namespace Rows
def none {H : Type} : Left H := { results := [], args := [] }

/-- 'ensemblelaw14.ElasticMore': WHATEVER THE INPUT: true; the input reads as it did. -/
def elasticMoreSpec : ChangeSpec := { name := "elasticMore", fn := fun _ => fun
  | [d1, d2, d3, d4] => { results := [.lit (.bool true)], args := [d1, d2, d3, d4] }
  | _ => none }
def elasticMoreRow : OpenClaim := { program := "ytneddobmlcbabaa", sum := "0cc4ea6b0e6edf1c85e4e6df50ed216f896cfeae407ee1124abadfa3afa5679e", func := "ensemble/ensemblelaw14.ElasticMore", spec := "elasticMore", inPlace := ["internal/reflectlite.ValueOf", "internal/reflectlite.Swapper", "(internal/reflectlite.Value).Len"], unfollowed := true, recurses := true, plainKeys := false, apart := false }
def ElasticMoreSaid : Prop := elasticMoreRow.holds Try.pinned (OpenSpec.ofChange elasticMoreSpec)

/-- ITS FALSE NEIGHBOUR: 'it returns false'. Refute it at one input. -/
def elasticMoreWrong : ChangeSpec := { name := "elasticMore", fn := fun _ => fun
  | [d1, d2, d3, d4] => { results := [.lit (.bool false)], args := [d1, d2, d3, d4] }
  | _ => none }
def ElasticMoreWrongFalsely : Prop := elasticMoreRow.holds Try.pinned (OpenSpec.ofChange elasticMoreWrong)

/-- 'ensemblelaw14.ElasticSafe': WHATEVER THE INPUT: true; the input reads as it did. -/
def elasticSafeSpec : ChangeSpec := { name := "elasticSafe", fn := fun _ => fun
  | [d1, d2, d3, d4] => { results := [.lit (.bool true)], args := [d1, d2, d3, d4] }
  | _ => none }
def elasticSafeRow : OpenClaim := { program := "ytneddobmlcbabaa", sum := "0cc4ea6b0e6edf1c85e4e6df50ed216f896cfeae407ee1124abadfa3afa5679e", func := "ensemble/ensemblelaw14.ElasticSafe", spec := "elasticSafe", inPlace := ["internal/reflectlite.ValueOf", "internal/reflectlite.Swapper", "(internal/reflectlite.Value).Len"], unfollowed := true, recurses := true, plainKeys := false, apart := false }
def ElasticSafeSaid : Prop := elasticSafeRow.holds Try.pinned (OpenSpec.ofChange elasticSafeSpec)

/-- ITS FALSE NEIGHBOUR: 'it returns false'. Refute it at one input. -/
def elasticSafeWrong : ChangeSpec := { name := "elasticSafe", fn := fun _ => fun
  | [d1, d2, d3, d4] => { results := [.lit (.bool false)], args := [d1, d2, d3, d4] }
  | _ => none }
def ElasticSafeWrongFalsely : Prop := elasticSafeRow.holds Try.pinned (OpenSpec.ofChange elasticSafeWrong)

/-- 'ensemblelaw15.WorkerMay': WHATEVER THE INPUT: true; the input reads as it did. -/
def workerMaySpec : ChangeSpec := { name := "workerMay", fn := fun _ => fun
  | [d] => { results := [.lit (.bool true)], args := [d] }
  | _ => none }
def workerMayRow : OpenClaim := { program := "ytneddobmlcbabaa", sum := "0cc4ea6b0e6edf1c85e4e6df50ed216f896cfeae407ee1124abadfa3afa5679e", func := "ensemble/ensemblelaw15.WorkerMay", spec := "workerMay", inPlace := ["internal/reflectlite.ValueOf", "internal/reflectlite.Swapper", "(internal/reflectlite.Value).Len"], unfollowed := true, recurses := true, plainKeys := false, apart := false }
def WorkerMaySaid : Prop := workerMayRow.holds Try.pinned (OpenSpec.ofChange workerMaySpec)

/-- ITS FALSE NEIGHBOUR: 'it returns false'. Refute it at one input. -/
def workerMayWrong : ChangeSpec := { name := "workerMay", fn := fun _ => fun
  | [d] => { results := [.lit (.bool false)], args := [d] }
  | _ => none }
def WorkerMayWrongFalsely : Prop := workerMayRow.holds Try.pinned (OpenSpec.ofChange workerMayWrong)

/-- 'ensemblelaw15.WorkerRests': WHATEVER THE INPUT: true; the input reads as it did. -/
def workerRestsSpec : ChangeSpec := { name := "workerRests", fn := fun _ => fun
  | [d] => { results := [.lit (.bool true)], args := [d] }
  | _ => none }
def workerRestsRow : OpenClaim := { program := "ytneddobmlcbabaa", sum := "0cc4ea6b0e6edf1c85e4e6df50ed216f896cfeae407ee1124abadfa3afa5679e", func := "ensemble/ensemblelaw15.WorkerRests", spec := "workerRests", inPlace := ["internal/reflectlite.ValueOf", "internal/reflectlite.Swapper", "(internal/reflectlite.Value).Len"], unfollowed := true, recurses := true, plainKeys := false, apart := false }
def WorkerRestsSaid : Prop := workerRestsRow.holds Try.pinned (OpenSpec.ofChange workerRestsSpec)

/-- ITS FALSE NEIGHBOUR: 'it returns false'. Refute it at one input. -/
def workerRestsWrong : ChangeSpec := { name := "workerRests", fn := fun _ => fun
  | [d] => { results := [.lit (.bool false)], args := [d] }
  | _ => none }
def WorkerRestsWrongFalsely : Prop := workerRestsRow.holds Try.pinned (OpenSpec.ofChange workerRestsWrong)

/- THE SECOND FORM. 'bulk': how many values and letters a reading holds, each counted each time it is reached (what is shared counts as often as it is met; a slice's spare places count too). A statement '..UptoSaid' is the law's where the arguments, and the package variables that the reading takes, are together of bulk at most 1048576: NARROWER than '..Said'. Prove '..Said' where nothing that the law and all that it calls make is longer than what came in: it says more and counts as full. Else prove '..UptoSaid'. A law counts once. -/
mutual
def uptoBulk {H : Type} : DataW H → Nat
  | .lit (.string bytes) => bytes.length + 1
  | .lit _ => 1
  | .nil => 1
  | .ptr d => uptoBulk d + 1
  | .slice elems spare => uptoBulkAll elems + uptoBulkAll spare + 1
  | .agg parts => uptoBulkAll parts + 1
  | .iface _ d => uptoBulk d + 1
  | .map entries => uptoBulkEntries entries + 1
  | .held _ => 1
def uptoBulkAll {H : Type} : List (DataW H) → Nat
  | [] => 0
  | d :: r => uptoBulk d + uptoBulkAll r
def uptoBulkEntries {H : Type} : List (Lit × DataW H) → Nat
  | [] => 0
  | x :: r => uptoBulkEntry x + uptoBulkEntries r
def uptoBulkEntry {H : Type} : Lit × DataW H → Nat
  | (.string bytes, d) => bytes.length + uptoBulk d + 1
  | (_, d) => uptoBulk d + 1
 end
def uptoSmall : (H : Type) → List (DataW H) → Bool := fun _ ds => decide (uptoBulkAll ds ≤ 1048576)
def OpenSpec.upto (s : _root_.Go.ChangeSpec) : _root_.Go.OpenSpec := { _root_.Go.OpenSpec.ofChange s with cond := some uptoSmall }

/-- 'ensemblelaw14.ElasticMore', WHERE WHAT IT READS IS OF BULK AT MOST 1048576: true; the input reads as it did. -/
def elasticMoreUptoRow : OpenClaim := { program := "ytneddobmlcbabaa", sum := "0cc4ea6b0e6edf1c85e4e6df50ed216f896cfeae407ee1124abadfa3afa5679e", func := "ensemble/ensemblelaw14.ElasticMore", spec := "elasticMore", inPlace := ["internal/reflectlite.ValueOf", "internal/reflectlite.Swapper", "(internal/reflectlite.Value).Len"], unfollowed := true, recurses := true, plainKeys := false, apart := false, narrowed := true }
def ElasticMoreUptoSaid : Prop := elasticMoreUptoRow.holds Try.pinned (OpenSpec.upto elasticMoreSpec)

/-- 'ensemblelaw14.ElasticSafe', WHERE WHAT IT READS IS OF BULK AT MOST 1048576: true; the input reads as it did. -/
def elasticSafeUptoRow : OpenClaim := { program := "ytneddobmlcbabaa", sum := "0cc4ea6b0e6edf1c85e4e6df50ed216f896cfeae407ee1124abadfa3afa5679e", func := "ensemble/ensemblelaw14.ElasticSafe", spec := "elasticSafe", inPlace := ["internal/reflectlite.ValueOf", "internal/reflectlite.Swapper", "(internal/reflectlite.Value).Len"], unfollowed := true, recurses := true, plainKeys := false, apart := false, narrowed := true }
def ElasticSafeUptoSaid : Prop := elasticSafeUptoRow.holds Try.pinned (OpenSpec.upto elasticSafeSpec)

/-- 'ensemblelaw15.WorkerMay', WHERE WHAT IT READS IS OF BULK AT MOST 1048576: true; the input reads as it did. -/
def workerMayUptoRow : OpenClaim := { program := "ytneddobmlcbabaa", sum := "0cc4ea6b0e6edf1c85e4e6df50ed216f896cfeae407ee1124abadfa3afa5679e", func := "ensemble/ensemblelaw15.WorkerMay", spec := "workerMay", inPlace := ["internal/reflectlite.ValueOf", "internal/reflectlite.Swapper", "(internal/reflectlite.Value).Len"], unfollowed := true, recurses := true, plainKeys := false, apart := false, narrowed := true }
def WorkerMayUptoSaid : Prop := workerMayUptoRow.holds Try.pinned (OpenSpec.upto workerMaySpec)

/-- 'ensemblelaw15.WorkerRests', WHERE WHAT IT READS IS OF BULK AT MOST 1048576: true; the input reads as it did. -/
def workerRestsUptoRow : OpenClaim := { program := "ytneddobmlcbabaa", sum := "0cc4ea6b0e6edf1c85e4e6df50ed216f896cfeae407ee1124abadfa3afa5679e", func := "ensemble/ensemblelaw15.WorkerRests", spec := "workerRests", inPlace := ["internal/reflectlite.ValueOf", "internal/reflectlite.Swapper", "(internal/reflectlite.Value).Len"], unfollowed := true, recurses := true, plainKeys := false, apart := false, narrowed := true }
def WorkerRestsUptoSaid : Prop := workerRestsUptoRow.holds Try.pinned (OpenSpec.upto workerRestsSpec)

end Rows
end Go.Proofs.Ytneddobmlcbabaa
