/- Proved: the law CoreLinear (a product straight on is the direct sum, whenever some power of two that isn't below its length divides p - 1; else it is refused) returns true for every input of bulk at most 1048576 and leaves its arguments as they were. No other condition. -/
import Derived.Test.YtpkpadepccneeaaGreatDoorL49
import Derived.Test.YtpkpadepccneeaaGreatDoorL50
import Derived.Test.YtpkpadepccneeaaGreatDoorRows
import Derived.WalkKit
import Derived.ProofKit
import Derived.LaidMore
import Derived.OpenShut
import Derived.Stop.Joined
import Derived.ChangeOld
import Derived.Below
import Derived.Lib.LaidTab
import Derived.Deep.DeepHandedRow
namespace Go.Proofs.YtpkpadepccneeaaGreatDoor.coreLinear
open Go.ChangeShapes Go.WideShapes Go.ChangeAt Go.RowKit
set_option linter.unusedVariables false
theorem own : ownKnob Tryz.prog.godebug = none := by kernel_rfl
theorem laidOut : laidOutB Tryz.prog = true := by kernel_rfl
def laid : List (String × DataW Unit) := [("math/bits.deBruijn32tab", Rows.laid_math_bits_deBruijn32tab), ("math/bits.deBruijn64tab", Rows.laid_math_bits_deBruijn64tab), ("internal/strconv.uint64pow10", Rows.laid_internal_strconv_uint64pow10), ("strconv.ErrRange", Rows.laid_strconv_ErrRange), ("strconv.ErrSyntax", Rows.laid_strconv_ErrSyntax)]
theorem gTab : Tryz.prog.globalNamed "internal/strconv.uint64pow10" = some 4 := by kernel_rfl
theorem tTab : (Tryz.prog.globals[4]?).map (·.type) = some 361 := by kernel_rfl
theorem data_tab : (Rows.laid_internal_strconv_uint64pow10 : DataW Unit) = Lib.tabData .u64 Lib.pow10Tab := by rfl
/-- What the condition gives the walks: strconv's table of powers of ten. -/
theorem of_laid {W : World} (h : laidMetH Tryz.prog laid W) : Lib.TabIs Tryz.prog W "internal/strconv.uint64pow10" .u64 Lib.pow10Tab := by
  rw [MakeChecks.laidMetH_plain _ _ _ (by kernel_rfl)] at h
  obtain ⟨ps, ⟨_, _, _, _, _, _, _, _, _, _, ⟨_, _, _, _, _, _, _, _, _, _, ⟨g, t, cs, fuel, p, q, hg, ht, hvar, hd, _, _⟩, _⟩, _⟩, _⟩ := h
  obtain rfl := Option.some.inj (gTab.symm.trans hg)
  obtain rfl := Option.some.inj (tTab.symm.trans ht)
  rw [data_tab] at hd
  unfold Lib.TabIs
  rw [hvar, ← Lib.cells_of_tab (n := 20) (e := 22) (by kernel_rfl) Tryz.underlying22 (by kernel_rfl) (by kernel_rfl) hd]
set_option maxRecDepth 100000 in
theorem door_met (os : Os) (args : Array Value) : laidMetH Tryz.prog laid ((World.doorLaid Tryz.prog 400 os).forCall (fun _ _ => 0) ⟨#[], args, []⟩).memory :=
  laidMetH_of_parts3 (fuel := 8) (laidMet_of_run' 8 (by kernel_rfl) (by kernel_rfl)) (by kernel_rfl) (by kernel_rfl)
def args0 : Array Value := #[.agg #[.int .i64 0, .int .i64 0, .int .u64 0, .slice none 0 0], .slice none 0 0, .slice none 0 0]
set_option maxRecDepth 100000 in
theorem whole0 (os : Os) {H : Type} (enc : TypeId × Value → H) : (DataW.whole enc Tryz.prog ((World.doorLaid Tryz.prog 400 os).forCall (fun _ _ => 0) ⟨#[], args0, []⟩).memory Tryz.f5.params.toList (Rows.OpenSpec.upto Rows.coreLinearSpec).vars false args0.toList 8).map (fun x => (x.1, x.2.1)) =
    some ([.agg [.lit (.int .i64 0), .lit (.int .i64 0), .lit (.int .u64 0), .nil], .nil, .nil], []) := by kernel_rfl
set_option maxRecDepth 100000 in
theorem witness_row (os : Os) {H : Type} (enc : TypeId × Value → H) :
    (Rows.OpenSpec.upto Rows.coreLinearSpec).preRow enc Tryz.prog Tryz.f5 Rows.coreLinearUptoRow.domain false laid ((World.doorLaid Tryz.prog 400 os).forCall (fun _ _ => 0) ⟨#[], args0, []⟩).memory args0 := by
  obtain ⟨⟨x1, x2, x3⟩, hx, hx1⟩ := Option.map_eq_some_iff.1 (whole0 os enc)
  simp only [Prod.mk.injEq] at hx1
  obtain ⟨rfl, rfl⟩ := hx1
  exact OpenSpec.preRow_of_cond 8 hx (by kernel_rfl) (fun k hk => by cases hk; rfl) (by kernel_rfl) (door_met os _)
set_option maxRecDepth 100000 in
theorem lifted (os : Os) (started : os.Started) (H : Type) (enc : TypeId × Value → H) (F : Stop.Interp) :
    ReturnsInHanded {} Tryz.checked os 5 .any ((Rows.OpenSpec.upto Rows.coreLinearSpec).preRow enc Tryz.prog Tryz.f5 Rows.coreLinearUptoRow.domain false laid)
      (((Rows.OpenSpec.upto Rows.coreLinearSpec).at F).post enc Tryz.prog Tryz.f5 false true false false) := by
  refine returnsInHanded_of_row (C := Tryz.checked) (s := Rows.OpenSpec.upto Rows.coreLinearSpec) own started (by kernel_rfl) Tryz.func5
    (witness_row_at (enc := enc) (C := Tryz.checked) false (World.doorLaid Tryz.prog 400 os) args0 rfl (by kernel_rfl) (by kernel_rfl) (by kernel_rfl) (witness_row os enc)) ?_
  intro W base args ds gs before hval0 hW _ hcond0 _ hL _ _
  have hcond : Rows.uptoSmall H (ds ++ gs) = true := hcond0 _ rfl
  have hval : ∀ (j : Nat) t v, Tryz.f5.params[j]? = some t → args[j]? = some v → Value.okWide Tryz.prog W .any base t v := hval0
  have hW' := hW
  obtain ⟨p, q, hA0, hV, rfl, hfz, hnd⟩ := hW
  have hA : DataW.TrodAll enc Tryz.prog W 0 (fun _ => true) true Tryz.f5.params.toList args.toList ds p := hA0
  rw [Tryz.params5] at hA hval
  obtain ⟨v0, vs0, d0, ds0, p0, q0, hargs, rfl, rfl, h0, r0⟩ := trodAll_cons hA
  obtain ⟨v1, vs1, d1, ds1, p1, q1, rfl, rfl, rfl, h1, r1⟩ := trodAll_cons r0
  obtain ⟨v2, vs2, d2, ds2, p2, q2, rfl, rfl, rfl, h2, r2⟩ := trodAll_cons r1
  obtain ⟨rfl, rfl, rfl⟩ := trodAll_nil r2
  obtain rfl : args = #[v0, v1, v2] := by cases args; simp_all
  obtain ⟨rfl, rfl⟩ := trodVars_none hV
  have hbulk : Rows.uptoBulk d0 ≤ 1048576 := by
    have h := of_decide_eq_true hcond
    have := bulk_mem (d := d0) (ds := [d0, d1, d2] ++ []) (by simp)
    omega
  have k0 := h0
  have lt0 : ∀ x ∈ p0, x.block < W.heap.size := by obtain ⟨m, hm⟩ := k0; exact DataW.trod_lt m _ _ _ hm
  have k1 := h1
  have lt1 : ∀ x ∈ p1, x.block < W.heap.size := by obtain ⟨m, hm⟩ := k1; exact DataW.trod_lt m _ _ _ hm
  have k2 := h2
  have lt2 : ∀ x ∈ p2, x.block < W.heap.size := by obtain ⟨m, hm⟩ := k2; exact DataW.trod_lt m _ _ _ hm
  obtain ⟨kind, k, P, A, l, c, rfl, hP, hlc, hcm, hE, hO, hbl⟩ := open_source2 (hval 0 25 v0 rfl rfl) h0
  obtain ⟨A1, xs, c1, rfl, hxm, hx⟩ := open_row (hval 1 26 v1 rfl rfl) h1
  obtain ⟨A2, ys, c2, rfl, hym, hy⟩ := open_row (hval 2 26 v2 rfl rfl) h2
  have htab := of_laid hL
  clear hA0 hval0
  refine (lin_law kind k P A l c A1 A2 c1 c2 xs ys W hE hlc hcm hO hP (fun i hi => Nat.le_trans (hbl i hi) hbulk) hx hy hxm hym htab).mono fun e W' ⟨he, bel⟩ => ?_
  subst he
  exact ⟨_, rfl, _, _, _, [], _, [], hW', trodAll_mk1 (shut_bool Tryz.underlying4 _), (trodAll_cons_mk (Below.trod laidOut (by kernel_rfl) (of_decide_eq_true (by kernel_rfl)) k0 bel lt0) (trodAll_cons_mk (Below.trod laidOut (by kernel_rfl) (of_decide_eq_true (by kernel_rfl)) k1 bel lt1) (trodAll_cons_mk (Below.trod laidOut (by kernel_rfl) (of_decide_eq_true (by kernel_rfl)) k2 bel lt2) trodAll_mk0))), rfl, bel.frame _, fun h => by cases h⟩
theorem named5 : Tryz.pinned.checked.prog.funcNamed Rows.coreLinearUptoRow.func = some 5 := by kernel_rfl
theorem func5' : Tryz.pinned.checked.prog.funcs[5]? = some Tryz.f5 := Tryz.func5
theorem inst5 : Tryz.f5.isInstance Tryz.pinned.checked.prog Rows.coreLinearUptoRow.origin Rows.coreLinearUptoRow.targs := of_decide_eq_true (by kernel_rfl)
theorem wrap5 : Tryz.f5.isWrapper Tryz.pinned.checked.prog Rows.coreLinearUptoRow.wrapper Rows.coreLinearUptoRow.mainSum := by
  unfold Func.isWrapper; first | (rw [if_pos (by decide +kernel)]; kernel_rfl) | (rw [if_neg (by decide +kernel)]; exact ⟨rfl, rfl⟩)
theorem lift5 (os : Os) (started : os.Started) (H : Type) (enc : TypeId × Value → H) (F : Stop.Interp) :
    ReturnsInHanded Rows.coreLinearUptoRow.assume Tryz.pinned.checked os 5 .any (Rows.coreLinearUptoRow.pre enc Tryz.pinned.checked.prog Tryz.f5 (Rows.OpenSpec.upto Rows.coreLinearSpec))
      (((Rows.OpenSpec.upto Rows.coreLinearSpec).at F).post enc Tryz.pinned.checked.prog Tryz.f5 Rows.coreLinearUptoRow.apart Rows.coreLinearUptoRow.fresh Rows.coreLinearUptoRow.handsOn Rows.coreLinearUptoRow.again) := by
  rw [OpenClaim.pre_eq_preRow]
  exact lifted os started H enc F
theorem over : Rows.CoreLinearUptoSaid :=
  OpenClaim.holds_of_cond 5 Tryz.f5 rfl rfl rfl rfl rfl rfl rfl ⟨rfl, rfl, rfl, rfl, rfl⟩ rfl rfl rfl rfl rfl named5 func5' joined5 inst5 wrap5 (fun os started H enc _ F => lift5 os started H enc F)
end Go.Proofs.YtpkpadepccneeaaGreatDoor.coreLinear
