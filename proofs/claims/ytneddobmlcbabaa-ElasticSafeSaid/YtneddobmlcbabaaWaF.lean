/- A walk by symbols over the given program, a part of it: lemmas alone; what is claimed stands in the last text. No conditions of its own. -/
import Derived.Test.YtneddobmlcbabaaWaB
import Derived.Test.YtneddobmlcbabaaProg
import Derived.WalkKit
import Derived.KernelRfl
set_option linter.unusedVariables false
set_option linter.unusedSimpArgs false
namespace Go.Proofs.Ytneddobmlcbabaa
open Go.SE
def T : List (Nat × TI) := [
  (3, { size := 1, bytes := 8, d := .int .i64, zero := [.i .i64], eqs := none }),
  (28, { size := 9, bytes := 152, d := .struct [(0, 3), (1, 3), (2, 3), (3, 3), (4, 22), (5, 23), (6, 24), (7, 25), (8, 26)], zero := [.i .i64, .i .i64, .i .i64, .i .i64, .sl, .sl, .sl, .sl, .sl], eqs := none }),
  (41, { size := 2, bytes := 16, d := .struct [(0, 3), (1, 3)], zero := [.i .i64, .i .i64], eqs := some [.i64, .i64] }),
  (32, { size := 8, bytes := 64, d := .struct [(0, 3), (1, 3), (2, 3), (3, 3), (4, 30)], zero := [.i .i64, .i .i64, .i .i64, .i .i64, .i .i64, .i .i64, .i .i64, .i .i64], eqs := some [.i64, .i64, .i64, .i64, .i64, .i64, .i64, .i64] }),
  (30, { size := 4, bytes := 32, d := .struct [(0, 3), (1, 3), (2, 3), (3, 3)], zero := [.i .i64, .i .i64, .i .i64, .i .i64], eqs := some [.i64, .i64, .i64, .i64] }),
  (44, { size := 5, bytes := 56, d := .struct [(0, 3), (1, 3), (2, 3), (3, 4), (4, 35)], zero := [.i .i64, .i .i64, .i .i64, .b, .sl], eqs := none }),
  (22, { size := 1, bytes := 24, d := .sl 73, zero := [.sl], eqs := none }),
  (47, { size := 1, bytes := 8, d := .int .u64, zero := [.i .u64], eqs := none }),
  (35, { size := 1, bytes := 24, d := .sl 49, zero := [.sl], eqs := none }),
  (24, { size := 1, bytes := 24, d := .sl 44, zero := [.sl], eqs := none }),
  (73, { size := 4, bytes := 32, d := .struct [(0, 46), (2, 47), (3, 3)], zero := [.i .i64, .i .i64, .i .u64, .i .i64], eqs := some [.i64, .i64, .u64, .i64] }),
  (49, { size := 4, bytes := 32, d := .struct [(0, 46), (2, 47), (3, 3)], zero := [.i .i64, .i .i64, .i .u64, .i .i64], eqs := some [.i64, .i64, .u64, .i64] }),
  (53, { size := 6, bytes := 48, d := .struct [(0, 3), (1, 3), (2, 30)], zero := [.i .i64, .i .i64, .i .i64, .i .i64, .i .i64, .i .i64], eqs := some [.i64, .i64, .i64, .i64, .i64, .i64] }),
  (36, { size := 1, bytes := 8, d := .int .i64, zero := [.i .i64], eqs := none }),
  (63, { size := 3, bytes := 40, d := .struct [(0, 3), (1, 3), (2, 35)], zero := [.i .i64, .i .i64, .sl], eqs := none }),
  (25, { size := 1, bytes := 24, d := .sl 72, zero := [.sl], eqs := none }),
  (23, { size := 1, bytes := 24, d := .sl 41, zero := [.sl], eqs := none }),
  (140, { size := 2, bytes := 16, d := .struct [(0, 112), (1, 136)], zero := [.fn, .fn], eqs := none }),
  (170, { size := 1, bytes := 8, d := .int .u64, zero := [.i .u64], eqs := none }),
  (72, { size := 10, bytes := 80, d := .struct [(0, 32), (8, 3), (9, 3)], zero := [.i .i64, .i .i64, .i .i64, .i .i64, .i .i64, .i .i64, .i .i64, .i .i64, .i .i64, .i .i64], eqs := some [.i64, .i64, .i64, .i64, .i64, .i64, .i64, .i64, .i64, .i64] }),
  (26, { size := 1, bytes := 24, d := .sl 97, zero := [.sl], eqs := none }),
  (46, { size := 2, bytes := 16, d := .struct [(0, 3), (1, 3)], zero := [.i .i64, .i .i64], eqs := some [.i64, .i64] }),
  (98, { size := 1, bytes := 24, d := .sl 3, zero := [.sl], eqs := none }),
  (4, { size := 1, bytes := 1, d := .bool, zero := [.b], eqs := none }),
  (97, { size := 16, bytes := 128, d := .struct [(0, 32), (8, 3), (9, 3), (10, 3), (11, 3), (12, 3), (13, 3), (14, 3), (15, 3)], zero := [.i .i64, .i .i64, .i .i64, .i .i64, .i .i64, .i .i64, .i .i64, .i .i64, .i .i64, .i .i64, .i .i64, .i .i64, .i .i64, .i .i64, .i .i64, .i .i64], eqs := some [.i64, .i64, .i64, .i64, .i64, .i64, .i64, .i64, .i64, .i64, .i64, .i64, .i64, .i64, .i64, .i64] }),
  (128, { size := 3, bytes := 24, d := .arr 3 3, zero := [.i .i64, .i .i64, .i .i64], eqs := none }),
  (93, { size := 1, bytes := 8, d := .struct [(0, 91)], zero := [.fn], eqs := none }),
  (152, { size := 1, bytes := 8, d := .word, zero := [.fn], eqs := none }),
  (112, { size := 1, bytes := 8, d := .word, zero := [.fn], eqs := none }),
  (5, { size := 1, bytes := 1, d := .int .u8, zero := [.i .u8], eqs := none }),
  (136, { size := 1, bytes := 8, d := .word, zero := [.fn], eqs := none }),
  (83, { size := 1, bytes := 8, d := .word, zero := [.fn], eqs := none }),
  (94, { size := 3, bytes := 24, d := .arr 3 93, zero := [.fn, .fn, .fn], eqs := none }),
  (129, { size := 12, bytes := 96, d := .arr 4 128, zero := [.i .i64, .i .i64, .i .i64, .i .i64, .i .i64, .i .i64, .i .i64, .i .i64, .i .i64, .i .i64, .i .i64, .i .i64], eqs := none }),
  (148, { size := 1, bytes := 8, d := .word, zero := [.fn], eqs := none }),
  (147, { size := 1, bytes := 8, d := .word, zero := [.np], eqs := none }),
  (91, { size := 1, bytes := 8, d := .word, zero := [.fn], eqs := none }),
  (107, { size := 1, bytes := 8, d := .word, zero := [.fn], eqs := none }),
  (171, { size := 1, bytes := 8, d := .word, zero := [.fn], eqs := none }),
  (153, { size := 1, bytes := 8, d := .word, zero := [.fn], eqs := none }),
  (149, { size := 1, bytes := 8, d := .word, zero := [.fn], eqs := none }),
  (71, { size := 10, bytes := 80, d := .struct [(0, 32), (8, 3), (9, 3)], zero := [.i .i64, .i .i64, .i .i64, .i .i64, .i .i64, .i .i64, .i .i64, .i .i64, .i .i64, .i .i64], eqs := some [.i64, .i64, .i64, .i64, .i64, .i64, .i64, .i64, .i64, .i64] }),
  (20, { size := 1, bytes := 16, d := .word, zero := [.ifc], eqs := none }),
  (79, { size := 1, bytes := 8, d := .word, zero := [.fn], eqs := none }),
  (123, { size := 1, bytes := 8, d := .word, zero := [.fn], eqs := none }),
  (134, { size := 3, bytes := 24, d := .struct [(0, 17), (1, 131), (2, 132)], zero := [.np, .np, .i .u64], eqs := none }),
  (154, { size := 1, bytes := 8, d := .word, zero := [.fn], eqs := none }),
  (163, { size := 1, bytes := 8, d := .word, zero := [.fn], eqs := none }),
  (165, { size := 1, bytes := 8, d := .word, zero := [.mp], eqs := none }),
  (17, { size := 1, bytes := 8, d := .word, zero := [.np], eqs := none }),
  (132, { size := 1, bytes := 8, d := .int .u64, zero := [.i .u64], eqs := none })
  ]
theorem tabT : chkTab Try.prog T = true := by kernel_rfl
theorem mixedT : Try.prog.follows .mixedOrders = true := by kernel_rfl
theorem C : Ctx Try.prog T := ⟨(chkTab_ok tabT).1, (chkTab_ok tabT).2, mixedT⟩
end Go.Proofs.Ytneddobmlcbabaa
