/- Proved: the law ViewMeets of chapter 8 (Meet answers whether two views have a cell in common, whichever is named first) returns true for every input and leaves its arguments as they were. No condition. -/
import Derived.Test.YtdaajncfhcpecaaMeetsLaw
import Derived.Test.YtdaajncfhcpecaaOpenFour
import Derived.Test.YtdaajncfhcpecaaOpenView
import Derived.Test.YtdaajncfhcpecaaRows
import Derived.WalkKit
import Derived.ProofKit
import Derived.OpenShut
import Derived.ShutString
import Derived.ChangeOld
import Derived.Below
namespace Go.Proofs.Ytdaajncfhcpecaa.viewMeets
open Go.ChangeShapes Go.WideShapes Go.ChangeAt Go.RowKit
open Go.ChangeMaps (open_string shut_string)
set_option linter.unusedVariables false

theorem own : ownKnob Try.prog.godebug = none := by kernel_rfl
theorem laidOut : laidOutB Try.prog = true := by kernel_rfl

def IsRow (k : IntKind) (w : World) (a : Option Addr) (len cap : Nat) (zs : List Int) : Prop :=
  (a = none ∧ len = 0 ∧ cap = 0 ∧ zs = []) ∨
  ∃ x, a = some x ∧ len ≤ cap ∧ cap ≤ maxLen ∧ zs.length = cap ∧ (∀ i, i < zs.length → w.cell? (x.add i) = some (.int k (zs.getD i 0))) ∧ ∀ n ∈ zs, (Lit.int k n).wf = true

theorem walk (o0 : Int) (a0 : Option Addr) (len0 cap0 : Nat) (b0 : Option Addr) (men0 dap0 : Nat) (z0 y0 : List Int) (o1 : Int) (a1 : Option Addr) (len1 cap1 : Nat) (b1 : Option Addr) (men1 dap1 : Nat) (z1 y1 : List Int) (w : World) (w0 : (Lit.int .i64 o0).wf = true ∧ InRow w a0 len0 cap0 z0 ∧ InRow w b0 men0 dap0 y0) (w1 : (Lit.int .i64 o1).wf = true ∧ InRow w a1 len1 cap1 z1 ∧ InRow w b1 men1 dap1 y1) :
    Calls Try.prog 11 #[.agg (view o0 a0 len0 cap0 b0 men0 dap0), .agg (view o1 a1 len1 cap1 b1 men1 dap1)] w fun e w' => e = .returned (.bool true) ∧ Below w.heap.size w w' := by
  obtain ⟨_, h1, h2⟩ := w0
  obtain ⟨_, h3, h4⟩ := w1
  obtain ⟨l, rfl, hr, hm, hc, _⟩ := row_of h1
  obtain ⟨s, rfl, hs, hms, hcs, _⟩ := row_of h2
  obtain ⟨l2, rfl, hr2, hm2, hc2, _⟩ := row_of h3
  obtain ⟨s2, rfl, hs2, hms2, hcs2, _⟩ := row_of h4
  exact meets_law o0 a0 b0 cap0 dap0 l s o1 a1 b1 cap1 dap1 l2 s2 w hr hs hr2 hs2 hc (by simp only [maxLen] at hm; omega) (by simp only [maxLen] at hms; omega) hc2 (by simp only [maxLen] at hm2; omega) (by simp only [maxLen] at hms2; omega)

set_option maxRecDepth 100000 in
theorem lifted (os : Os) (started : os.Started) (H : Type) (enc : TypeId × Value → H) :
    ReturnsInHanded {} Try.checked os 11 .any (Rows.viewMeetsSpec.pre6 enc Try.prog Try.f11 Rows.viewMeetsRow.domain false) (Rows.viewMeetsSpec.post enc Try.prog Try.f11 false true false false) := by
  refine returnsInHanded_of_change (C := Try.checked) own started (by kernel_rfl) Try.func11
    (ChangeSpec.witness6 (enc := enc) (C := Try.checked) false ⟨#[], #[.agg (view 0 none 0 0 none 0 0), .agg (view 0 none 0 0 none 0 0)], []⟩ 8 (by kernel_rfl) (by kernel_rfl) (by kernel_rfl) (by kernel_rfl)) ?_
  intro W base args ds gs before hval0 hW hcnd _
  have hval : ∀ (j : Nat) t v, Try.f11.params[j]? = some t → args[j]? = some v → Value.okWide Try.prog W .any base t v := hval0
  have hW' := hW
  obtain ⟨p, q, hA0, hV, rfl, hfz, hnd⟩ := hW
  have hA : DataW.TrodAll enc Try.prog W 0 (fun _ => true) true Try.f11.params.toList args.toList ds p := hA0
  rw [Try.params11] at hA hval
  obtain ⟨v0, vs0, d0, ds0, p0, q0, hargs, rfl, rfl, h0, r0⟩ := trodAll_cons hA
  obtain ⟨v1, vs1, d1, ds1, p1, q1, rfl, rfl, rfl, h1, r1⟩ := trodAll_cons r0
  obtain ⟨rfl, rfl, rfl⟩ := trodAll_nil r1
  obtain rfl : args = #[v0, v1] := by cases args; simp_all
  obtain ⟨rfl, rfl⟩ := trodVars_none hV
  have k0 := h0
  have lt0 : ∀ x ∈ p0, x.block < W.heap.size := by obtain ⟨m, hm⟩ := k0; exact DataW.trod_lt m _ _ _ hm
  obtain ⟨o0, a0, len0, cap0, b0, men0, dap0, z0, y0, rfl, w0⟩ := open_view (hval 0 47 v0 rfl rfl) h0
  have k1 := h1
  have lt1 : ∀ x ∈ p1, x.block < W.heap.size := by obtain ⟨m, hm⟩ := k1; exact DataW.trod_lt m _ _ _ hm
  obtain ⟨o1, a1, len1, cap1, b1, men1, dap1, z1, y1, rfl, w1⟩ := open_view (hval 1 47 v1 rfl rfl) h1
  clear hA0 hval0
  refine (walk o0 a0 len0 cap0 b0 men0 dap0 z0 y0 o1 a1 len1 cap1 b1 men1 dap1 z1 y1 W w0 w1).mono fun e W' ⟨he, bel⟩ => ?_
  subst he
  exact ⟨_, rfl, _, _, _, [], _, [], hW', trodAll_mk1 (shut_bool Try.underlying4 _), (trodAll_cons_mk (Below.trod laidOut (by kernel_rfl) (of_decide_eq_true (by kernel_rfl)) k0 bel lt0) (trodAll_cons_mk (Below.trod laidOut (by kernel_rfl) (of_decide_eq_true (by kernel_rfl)) k1 bel lt1) trodAll_mk0)), rfl, bel.frame _, fun h => by cases h⟩

theorem over : Rows.viewMeetsRow.holds Try.pinned (OpenSpec.ofChange Rows.viewMeetsSpec) :=
  OpenClaim.holds_of_wide 11 Try.f11 rfl rfl rfl rfl rfl rfl rfl ⟨rfl, rfl, rfl, rfl, rfl⟩ rfl rfl rfl rfl rfl (by kernel_rfl) Try.func11 (by kernel_rfl)
    (of_decide_eq_true (by kernel_rfl)) (by unfold Func.isWrapper; first | (rw [if_pos (by decide +kernel)]; kernel_rfl) | (rw [if_neg (by decide +kernel)]; exact ⟨rfl, rfl⟩))
    (fun os started H enc _ => lifted os started H enc)

theorem proved : Rows.ViewMeetsSaid := over
#print axioms proved
end Go.Proofs.Ytdaajncfhcpecaa.viewMeets
