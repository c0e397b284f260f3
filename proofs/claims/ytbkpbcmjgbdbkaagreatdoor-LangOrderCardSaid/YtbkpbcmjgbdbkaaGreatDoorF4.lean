/- Two rows of bytes that are one, held against one another. No condition. -/
import Derived.Test.YtbkpbcmjgbdbkaaGreatDoorMC
namespace Go.Proofs.YtbkpbcmjgbdbkaaGreatDoor
open Go.RowKit Go.Lib
set_option linter.unusedVariables false
set_option linter.unusedSimpArgs false

theorem eqIn36 (d : Nat) (a0 a1 a2 a3 a4 a5 : Int) (w : World) : (Op.equalIn (d + 2) 25 (.agg #[.int .u8 a0, .int .u8 a1, .int .u8 a2, .int .u8 a3, .int .u8 a4, .int .u8 a5]) (.agg #[.int .u8 a0, .int .u8 a1, .int .u8 a2, .int .u8 a3, .int .u8 a4, .int .u8 a5])).run Tryz.prog w = .ok true w := by
  have ht : Tryz.prog.underlying 25 = some (.array 6 5) := by kernel_rfl
  have h5 : Tryz.prog.underlying 5 = some (.int .u8) := by kernel_rfl
  have hs : (sizeOf 5).run Tryz.prog w = .ok 1 w := by kernel_rfl
  have he : ∀ (a b : Int), (Op.equalIn (d + 1) 5 (.int .u8 a) (.int .u8 b)).run Tryz.prog w = .ok (a == b) w := fun a b => run_equalIn_int w d 5 .u8 .u8 a b h5
  rw [Op.equalIn]
  generalize Op.equalIn (d + 1) = E at *
  simp only [Sem.run_bind, run_underlying ht, Result.andThen_ok, hs]
  have p0 : (part 5 #[.int .u8 a0, .int .u8 a1, .int .u8 a2, .int .u8 a3, .int .u8 a4, .int .u8 a5] (0 * 1)).run Tryz.prog w = .ok (.int .u8 a0) w := by kernel_rfl
  have p1 : (part 5 #[.int .u8 a0, .int .u8 a1, .int .u8 a2, .int .u8 a3, .int .u8 a4, .int .u8 a5] (1 * 1)).run Tryz.prog w = .ok (.int .u8 a1) w := by kernel_rfl
  have p2 : (part 5 #[.int .u8 a0, .int .u8 a1, .int .u8 a2, .int .u8 a3, .int .u8 a4, .int .u8 a5] (2 * 1)).run Tryz.prog w = .ok (.int .u8 a2) w := by kernel_rfl
  have p3 : (part 5 #[.int .u8 a0, .int .u8 a1, .int .u8 a2, .int .u8 a3, .int .u8 a4, .int .u8 a5] (3 * 1)).run Tryz.prog w = .ok (.int .u8 a3) w := by kernel_rfl
  have p4 : (part 5 #[.int .u8 a0, .int .u8 a1, .int .u8 a2, .int .u8 a3, .int .u8 a4, .int .u8 a5] (4 * 1)).run Tryz.prog w = .ok (.int .u8 a4) w := by kernel_rfl
  have p5 : (part 5 #[.int .u8 a0, .int .u8 a1, .int .u8 a2, .int .u8 a3, .int .u8 a4, .int .u8 a5] (5 * 1)).run Tryz.prog w = .ok (.int .u8 a5) w := by kernel_rfl
  rw [Std.Legacy.Range.forIn_eq_forIn_range']
  have hr : List.range' (Std.Legacy.Range.mk 0 6 1 (by decide)).start (Std.Legacy.Range.mk 0 6 1 (by decide)).size (Std.Legacy.Range.mk 0 6 1 (by decide)).step = [0, 1, 2, 3, 4, 5] := by decide
  rw [hr]
  simp only [List.forIn_cons, List.forIn_nil, Sem.run_bind, p0, p1, p2, p3, p4, p5, Result.andThen_ok, he, beq_self_eq_true, Bool.not_true, Bool.false_eq_true, if_false, Sem.run_pure]
theorem eql36 (a0 a1 a2 a3 a4 a5 : Int) (w : World) : (binOp .eql 25 (.agg #[.int .u8 a0, .int .u8 a1, .int .u8 a2, .int .u8 a3, .int .u8 a4, .int .u8 a5]) (.agg #[.int .u8 a0, .int .u8 a1, .int .u8 a2, .int .u8 a3, .int .u8 a4, .int .u8 a5])).run Tryz.prog w = .ok (.bool true) w := by
  have h : (Op.equal 25 (.agg #[.int .u8 a0, .int .u8 a1, .int .u8 a2, .int .u8 a3, .int .u8 a4, .int .u8 a5]) (.agg #[.int .u8 a0, .int .u8 a1, .int .u8 a2, .int .u8 a3, .int .u8 a4, .int .u8 a5])).run Tryz.prog w = .ok true w := eqIn36 9998 a0 a1 a2 a3 a4 a5 w
  simp only [binOp, Sem.run_bind, h, Result.andThen_ok, Sem.run_pure]
theorem eqIn41 (d : Nat) (a0 a1 a2 a3 a4 a5 a6 a7 : Int) (w : World) : (Op.equalIn (d + 2) 26 (.agg #[.int .u8 a0, .int .u8 a1, .int .u8 a2, .int .u8 a3, .int .u8 a4, .int .u8 a5, .int .u8 a6, .int .u8 a7]) (.agg #[.int .u8 a0, .int .u8 a1, .int .u8 a2, .int .u8 a3, .int .u8 a4, .int .u8 a5, .int .u8 a6, .int .u8 a7])).run Tryz.prog w = .ok true w := by
  have ht : Tryz.prog.underlying 26 = some (.array 8 5) := by kernel_rfl
  have h5 : Tryz.prog.underlying 5 = some (.int .u8) := by kernel_rfl
  have hs : (sizeOf 5).run Tryz.prog w = .ok 1 w := by kernel_rfl
  have he : ∀ (a b : Int), (Op.equalIn (d + 1) 5 (.int .u8 a) (.int .u8 b)).run Tryz.prog w = .ok (a == b) w := fun a b => run_equalIn_int w d 5 .u8 .u8 a b h5
  rw [Op.equalIn]
  generalize Op.equalIn (d + 1) = E at *
  simp only [Sem.run_bind, run_underlying ht, Result.andThen_ok, hs]
  have p0 : (part 5 #[.int .u8 a0, .int .u8 a1, .int .u8 a2, .int .u8 a3, .int .u8 a4, .int .u8 a5, .int .u8 a6, .int .u8 a7] (0 * 1)).run Tryz.prog w = .ok (.int .u8 a0) w := by kernel_rfl
  have p1 : (part 5 #[.int .u8 a0, .int .u8 a1, .int .u8 a2, .int .u8 a3, .int .u8 a4, .int .u8 a5, .int .u8 a6, .int .u8 a7] (1 * 1)).run Tryz.prog w = .ok (.int .u8 a1) w := by kernel_rfl
  have p2 : (part 5 #[.int .u8 a0, .int .u8 a1, .int .u8 a2, .int .u8 a3, .int .u8 a4, .int .u8 a5, .int .u8 a6, .int .u8 a7] (2 * 1)).run Tryz.prog w = .ok (.int .u8 a2) w := by kernel_rfl
  have p3 : (part 5 #[.int .u8 a0, .int .u8 a1, .int .u8 a2, .int .u8 a3, .int .u8 a4, .int .u8 a5, .int .u8 a6, .int .u8 a7] (3 * 1)).run Tryz.prog w = .ok (.int .u8 a3) w := by kernel_rfl
  have p4 : (part 5 #[.int .u8 a0, .int .u8 a1, .int .u8 a2, .int .u8 a3, .int .u8 a4, .int .u8 a5, .int .u8 a6, .int .u8 a7] (4 * 1)).run Tryz.prog w = .ok (.int .u8 a4) w := by kernel_rfl
  have p5 : (part 5 #[.int .u8 a0, .int .u8 a1, .int .u8 a2, .int .u8 a3, .int .u8 a4, .int .u8 a5, .int .u8 a6, .int .u8 a7] (5 * 1)).run Tryz.prog w = .ok (.int .u8 a5) w := by kernel_rfl
  have p6 : (part 5 #[.int .u8 a0, .int .u8 a1, .int .u8 a2, .int .u8 a3, .int .u8 a4, .int .u8 a5, .int .u8 a6, .int .u8 a7] (6 * 1)).run Tryz.prog w = .ok (.int .u8 a6) w := by kernel_rfl
  have p7 : (part 5 #[.int .u8 a0, .int .u8 a1, .int .u8 a2, .int .u8 a3, .int .u8 a4, .int .u8 a5, .int .u8 a6, .int .u8 a7] (7 * 1)).run Tryz.prog w = .ok (.int .u8 a7) w := by kernel_rfl
  rw [Std.Legacy.Range.forIn_eq_forIn_range']
  have hr : List.range' (Std.Legacy.Range.mk 0 8 1 (by decide)).start (Std.Legacy.Range.mk 0 8 1 (by decide)).size (Std.Legacy.Range.mk 0 8 1 (by decide)).step = [0, 1, 2, 3, 4, 5, 6, 7] := by decide
  rw [hr]
  simp only [List.forIn_cons, List.forIn_nil, Sem.run_bind, p0, p1, p2, p3, p4, p5, p6, p7, Result.andThen_ok, he, beq_self_eq_true, Bool.not_true, Bool.false_eq_true, if_false, Sem.run_pure]
theorem eql41 (a0 a1 a2 a3 a4 a5 a6 a7 : Int) (w : World) : (binOp .eql 26 (.agg #[.int .u8 a0, .int .u8 a1, .int .u8 a2, .int .u8 a3, .int .u8 a4, .int .u8 a5, .int .u8 a6, .int .u8 a7]) (.agg #[.int .u8 a0, .int .u8 a1, .int .u8 a2, .int .u8 a3, .int .u8 a4, .int .u8 a5, .int .u8 a6, .int .u8 a7])).run Tryz.prog w = .ok (.bool true) w := by
  have h : (Op.equal 26 (.agg #[.int .u8 a0, .int .u8 a1, .int .u8 a2, .int .u8 a3, .int .u8 a4, .int .u8 a5, .int .u8 a6, .int .u8 a7]) (.agg #[.int .u8 a0, .int .u8 a1, .int .u8 a2, .int .u8 a3, .int .u8 a4, .int .u8 a5, .int .u8 a6, .int .u8 a7])).run Tryz.prog w = .ok true w := eqIn41 9998 a0 a1 a2 a3 a4 a5 a6 a7 w
  simp only [binOp, Sem.run_bind, h, Result.andThen_ok, Sem.run_pure]
end Go.Proofs.YtbkpbcmjgbdbkaaGreatDoor
