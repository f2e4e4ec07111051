/- A view among a law's arguments, opened: its offset and its two rows. No condition. -/
import Derived.Test.YtdaajncfhcpecaaOpenFour
import Derived.Test.YtdaajncfhcpecaaVWalk
namespace Go.Proofs.Ytdaajncfhcpecaa
set_option linter.unusedVariables false
set_option linter.unusedSimpArgs false
open Go.ChangeShapes Go.WideShapes Go.ChangeAt Go.RowKit
/-- A row among a law's arguments. -/
def InRow (w : World) (a : Option Addr) (len cap : Nat) (zs : List Int) : Prop :=
  (a = none ∧ len = 0 ∧ cap = 0 ∧ zs = []) ∨
  ∃ x, a = some x ∧ len ≤ cap ∧ cap ≤ maxLen ∧ zs.length = cap ∧ (∀ i, i < zs.length → w.cell? (x.add i) = some (.int .i64 (zs.getD i 0))) ∧ ∀ n ∈ zs, (Lit.int .i64 n).wf = true
theorem open_row {H : Type} {enc : TypeId × Value → H} {W : World} {b0 : Nat} {hd : Bool} {fuel : Nat} {c : Value} {x : DataW H × List MemPlace}
    (hf : DataW.trod enc Try.prog W b0 (fun _ => true) hd fuel 22 [c] = some x) : ∃ a len cap zs, c = .slice a len cap ∧ InRow W a len cap zs := by
  rcases open_ints Try.underlying22 Try.underlying3 (by kernel_rfl) hf with ⟨hcs, _⟩ | ⟨x, l, cp, zs, hcs, _, hl, hm, hz, _, hcell, hwz⟩
  · simp at hcs
    exact ⟨_, _, _, [], hcs, .inl ⟨rfl, rfl, rfl, rfl⟩⟩
  · simp at hcs
    exact ⟨_, _, _, zs, hcs, .inr ⟨_, rfl, hl, hm, by simpa using hz, hcell, hwz⟩⟩
theorem open_view {H : Type} {enc : TypeId × Value → H} {W : World} {base b0 : Nat} {hd : Bool} {v : Value} {d : DataW H} {p : List MemPlace}
    (hv : Value.okWide Try.prog W .any base 47 v) (h : DataW.Trod enc Try.prog W b0 (fun _ => true) hd 47 v d p) :
    ∃ o A n c B m e za zb, v = .agg (view o A n c B m e) ∧ (Lit.int .i64 o).wf = true ∧ InRow W A n c za ∧ InRow W B m e zb := by
  have h3 : Try.prog.cellsOf 3 = 1 := by kernel_rfl
  have h22 : Try.prog.cellsOf 22 = 1 := by kernel_rfl
  have h47 : Try.prog.cellsOf 47 = 3 := by kernel_rfl
  have hu : Try.prog.underlying 3 = some (.int .i64) := by kernel_rfl
  simp only [Value.okWide, Try.underlying47] at hv
  obtain ⟨cs, rfl, hsz, _⟩ := hv
  obtain ⟨cs⟩ := cs
  rw [h47] at hsz
  obtain ⟨fuel, hf⟩ := h
  obtain ⟨xs, m, _, hx, _, hl, hall⟩ := DataW.trod_struct Try.underlying47 hf
  have g0 := hall 0 _ rfl
  have g1 := hall 1 _ rfl
  have g2 := hall 2 _ rfl
  match xs, hl, cs, hsz with
  | [y0, y1, y2], _, [c0, c1, c2], _ =>
    simp [h3, h22, Value.cells] at g0 g1 g2
    obtain ⟨x0, e0, _, w0⟩ := DataW.trod_int hu g0
    obtain ⟨A, n, c, za, e1, w1⟩ := open_row g1
    obtain ⟨B, m, e, zb, e2, w2⟩ := open_row g2
    simp at e0
    subst e0 e1 e2
    exact ⟨x0, A, n, c, B, m, e, za, zb, rfl, w0, w1, w2⟩
end Go.Proofs.Ytdaajncfhcpecaa
