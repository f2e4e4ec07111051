/- Arrays of four whole numbers that are held against themselves. No condition. -/
import Derived.Test.YtpkpadepccneeaaGreatDoorP24
import Derived.ChangeKeysEq
namespace Go.Proofs.YtpkpadepccneeaaGreatDoor.W
set_option maxRecDepth 100000
set_option linter.unusedVariables false
set_option linter.unusedSimpArgs false
open Go.RowKit
theorem run_eq_int (a b : Int) (d : Nat) (w : World) : (Op.equalIn (d + 1) 3 (.int .i64 a) (.int .i64 b)).run Tryz.prog w = .ok (a == b) w := by
  have h3 : Tryz.prog.underlying 3 = some (.int .i64) := by kernel_rfl
  simp [Op.equalIn, run_underlying h3]
theorem part_0 (a b c d : Int) (w : World) : (part 3 (four a b c d) 0).run Tryz.prog w = .ok (.int .i64 a) w := by kernel_rfl
theorem part_1 (a b c d : Int) (w : World) : (part 3 (four a b c d) 1).run Tryz.prog w = .ok (.int .i64 b) w := by kernel_rfl
theorem part_2 (a b c d : Int) (w : World) : (part 3 (four a b c d) 2).run Tryz.prog w = .ok (.int .i64 c) w := by kernel_rfl
theorem part_3 (a b c d : Int) (w : World) : (part 3 (four a b c d) 3).run Tryz.prog w = .ok (.int .i64 d) w := by kernel_rfl
theorem eqIn_four (t : TypeId) (ht : Tryz.prog.underlying t = some (.array 4 3)) (k : Nat) (a b c d : Int) (w : World) : (Op.equalIn (k + 2) t (.agg (four a b c d)) (.agg (four a b c d))).run Tryz.prog w = .ok true w := by
  obtain ⟨i0, hi, _⟩ := info_parts infoInt
  have hc : Tryz.prog.cellsOf 3 = 1 := by kernel_rfl
  rw [run_equalIn_array w (k + 1) _ _ ht hi, hc]
  have hl : List.range 4 = [0, 1, 2, 3] := by decide
  rw [hl]
  simp only [Op.eqItems, Sem.run_bind, Nat.zero_mul, Nat.one_mul, Nat.mul_one, part_0, part_1, part_2, part_3, run_eq_int, Result.andThen_ok, beq_self_eq_true, Bool.not_true, Bool.false_eq_true, if_false, Sem.run_pure]
theorem eql_four (t : TypeId) (ht : Tryz.prog.underlying t = some (.array 4 3)) (a b c d : Int) (w : World) : (binOp .eql t (.agg (four a b c d)) (.agg (four a b c d))).run Tryz.prog w = .ok (.bool true) w := by
  simp only [binOp]
  simp [Op.equal, Op.maxDepth, eqIn_four t ht 9998 a b c d w]
theorem neq_four (t : TypeId) (ht : Tryz.prog.underlying t = some (.array 4 3)) (a b c d : Int) (w : World) : (binOp .neq t (.agg (four a b c d)) (.agg (four a b c d))).run Tryz.prog w = .ok (.bool false) w := by
  simp only [binOp]
  simp [Op.equal, Op.maxDepth, eqIn_four t ht 9998 a b c d w]
theorem arr33 : Tryz.prog.underlying 170 = some (.array 4 3) := by kernel_rfl
theorem arr32 : Tryz.prog.underlying 116 = some (.array 4 3) := by kernel_rfl
end Go.Proofs.YtpkpadepccneeaaGreatDoor.W
