/- An array of four whole numbers among a law's arguments, opened. No condition. -/
import Derived.Test.YtdaajncfhcpecaaEqFour
import Derived.ProofKit
import Derived.OpenShut
import Derived.Lib.SmallJoins
namespace Go.Proofs.Ytdaajncfhcpecaa
set_option linter.unusedVariables false
set_option linter.unusedSimpArgs false
open Go.ChangeShapes Go.WideShapes Go.ChangeAt Go.RowKit
theorem bounds_i64 {n : Int} (h : (Lit.int .i64 n).wf = true) : -9223372036854775808 ≤ n ∧ n ≤ 9223372036854775807 := by
  simp [Lit.wf, IntKind.min, IntKind.max, IntKind.signed, IntKind.bits] at h
  omega
theorem open_four {H : Type} {enc : TypeId × Value → H} {W : World} {base b0 : Nat} {sp : Nat → Bool} {hd : Bool} {t : TypeId} {v : Value} {d : DataW H} {p : List MemPlace}
    (ht : Try.prog.underlying t = some (.array 4 3)) (hC : Try.prog.cellsOf t = 4) (hv : Value.okWide Try.prog W .any base t v) (h : DataW.Trod enc Try.prog W b0 sp hd t v d p) :
    ∃ x0 x1 x2 x3 : Int, v = .agg (four x0 x1 x2 x3) ∧ (Lit.int .i64 x0).wf = true ∧ (Lit.int .i64 x1).wf = true ∧ (Lit.int .i64 x2).wf = true ∧ (Lit.int .i64 x3).wf = true := by
  have h3 : Try.prog.cellsOf 3 = 1 := by kernel_rfl
  have hu : Try.prog.underlying 3 = some (.int .i64) := by kernel_rfl
  simp only [Value.okWide, ht] at hv
  obtain ⟨cs, rfl, hsz, _⟩ := hv
  obtain ⟨c0, c1, c2, c3, rfl⟩ := Joins.array4 (hsz.trans hC)
  obtain ⟨fuel, hf⟩ := h
  obtain ⟨xs, m, _, hx, _, hl, hall⟩ := DataW.trod_array ht hf
  have g0 := hall 0 (by omega)
  have g1 := hall 1 (by omega)
  have g2 := hall 2 (by omega)
  have g3 := hall 3 (by omega)
  match xs, hl with
  | [y0, y1, y2, y3], _ =>
    simp [h3, Value.cells] at g0 g1 g2 g3
    obtain ⟨x0, e0, _, w0⟩ := DataW.trod_int hu g0
    obtain ⟨x1, e1, _, w1⟩ := DataW.trod_int hu g1
    obtain ⟨x2, e2, _, w2⟩ := DataW.trod_int hu g2
    obtain ⟨x3, e3, _, w3⟩ := DataW.trod_int hu g3
    simp at e0 e1 e2 e3
    subst e0 e1 e2 e3
    exact ⟨x0, x1, x2, x3, rfl, w0, w1, w2, w3⟩
end Go.Proofs.Ytdaajncfhcpecaa
