/- The walks of chapter 8's empty, axis and jump. No condition. -/
import Derived.Test.YtdaajncfhcpecaaVProgCheck
import Derived.Test.YtdaajncfhcpecaaVDense
namespace Go.Proofs.Ytdaajncfhcpecaa
set_option linter.unusedVariables false
set_option linter.unusedSimpArgs false
open Go.RowKit
theorem empty_no (w : World) : Calls Try.prog 34 #[.agg noView] w fun e w' => e = .returned (.bool true) ∧ Below w.heap.size w w' := by
  have HB := Lib.hid ((Below.refl w.heap.size w).alloc (Nat.le_refl _) (.cells noView 49))
  go_enter Try.func34, Try.ntmps34
  go_wp2_with fail
  go_ret
  exact ⟨rfl, HB.out⟩
/-- What is wrong with an axis of a view. -/
theorem axis_any (o : Int) (A B : Option Addr) (cp cq : Nat) (l s : List Int) (k : Int) (w : World) (hr : RI .i64 w A l) (hs : RI .i64 w B s) (hm : l.length ≤ 9223372036854775807) (hms : s.length ≤ 9223372036854775807) :
    Calls Try.prog 48 #[.agg (view o A l.length cp B s.length cq), .int .i64 k] w fun e w' => e = .returned (.int .i64 (if V.check o l s 4096 ≠ 0 then V.check o l s 4096 else if k < 0 ∨ (l.length : Int) ≤ k then 10 else 0)) ∧ Below w.heap.size w w' := by
  have HB := Lib.hid ((Below.refl w.heap.size w).alloc (Nat.le_refl _) (.cells (view o A l.length cp B s.length cq) 49))
  have HK := Lib.hid (Blk.new w 49 (view o A l.length cp B s.length cq))
  have CK := Lib.hid (Check_any o A B cp cq l s 4096 _ (hr.below HB.out) (hs.below HB.out) hm hms)
  clear hr hs hms
  generalize V.check o l s 4096 = q at *
  have HR1 := Lib.hid (show q ≠ 0 → q = (if q ≠ 0 then q else if k < 0 ∨ (l.length : Int) ≤ k then 10 else 0) from fun h => (if_pos h).symm)
  have HR2 := Lib.hid (show q = 0 → (k < 0 ∨ (l.length : Int) ≤ k) → 10 = (if q ≠ 0 then q else if k < 0 ∨ (l.length : Int) ≤ k then 10 else 0) from fun h h1 => by rw [if_neg (by omega), if_pos h1])
  have HR3 := Lib.hid (show q = 0 → ¬ (k < 0 ∨ (l.length : Int) ≤ k) → 0 = (if q ≠ 0 then q else if k < 0 ∨ (l.length : Int) ≤ k then 10 else 0) from fun h h1 => by rw [if_neg (by omega), if_neg h1])
  generalize (if q ≠ 0 then q else if k < 0 ∨ (l.length : Int) ≤ k then 10 else 0) = R at *
  go_enter Try.func48, Try.ntmps48
  go_wp2_with fail
  with_reducible refine CK.out.mono ?_
  rintro e w1 ⟨rfl, hb1⟩
  have HB1 := Lib.hid (below_then HB.out HB.out.size hb1)
  have HK1 := Lib.hid (HK.out.below hb1 (by simp))
  clear hb1 CK
  have k1 := HK1.out.cell 1
  by_cases hq : q = 0
  · subst hq
    by_cases h0 : k < 0
    · have HR := Lib.hid (HR2.out rfl (.inl h0))
      go_wp2_with fail
      go_ret
      exact ⟨ret_int HR.out, HB1.out⟩
    · have hd : decide (k < 0) = false := by simp; omega
      by_cases h1 : (l.length : Int) ≤ k
      · have HR := Lib.hid (HR2.out rfl (.inr h1))
        have hd2 := decide_eq_true h1
        clear h0 h1
        go_wp2_with fail
        go_ret
        exact ⟨ret_int HR.out, HB1.out⟩
      · have HR := Lib.hid (HR3.out rfl (by omega))
        have hd2 := decide_eq_false h1
        clear h0 h1
        go_wp2_with fail
        go_ret
        exact ⟨ret_int HR.out, HB1.out⟩
  · have HR := Lib.hid (HR1.out hq)
    have hb : (q != 0) = true := by simp [hq]
    have hb2 : (q == 0) = false := by simp [hq]
    clear hq
    go_wp2_with fail
    go_ret
    exact ⟨ret_int HR.out, HB1.out⟩
/-- An axis's stride; 0, if it has one index. -/
theorem jump_any (o : Int) (A B : Option Addr) (cp cq : Nat) (l s : List Int) (k : Nat) (w : World) (hr : RI .i64 w A l) (hs : RI .i64 w B s) (hk : k < l.length) (hk2 : k < s.length) :
    Calls Try.prog 52 #[.agg (view o A l.length cp B s.length cq), .int .i64 k] w fun e w' => e = .returned (.int .i64 (if l.getD k 0 = 1 then 0 else s.getD k 0)) ∧ Below w.heap.size w w' := by
  have HB := Lib.hid ((Below.refl w.heap.size w).alloc (Nat.le_refl _) (.cells (view o A l.length cp B s.length cq) 49))
  have HK := Lib.hid (Blk.new w 49 (view o A l.length cp B s.length cq))
  obtain ⟨ad, rfl, hc⟩ := (hr.below HB.out).at_ hk
  obtain ⟨bd, rfl, hc2⟩ := (hs.below HB.out).at_ hk2
  clear hr hs
  have HR1 := Lib.hid (show l.getD k 0 = 1 → 0 = (if l.getD k 0 = 1 then 0 else s.getD k 0) from fun h => (if_pos h).symm)
  have HR2 := Lib.hid (show l.getD k 0 ≠ 1 → s.getD k 0 = (if l.getD k 0 = 1 then 0 else s.getD k 0) from fun h => (if_neg h).symm)
  generalize (if l.getD k 0 = 1 then 0 else s.getD k 0) = R at *
  generalize l.getD k 0 = x at *
  generalize s.getD k 0 = y at *
  have hi0 : (0 : Int) ≤ (k : Int) := by omega
  have hi1 : (k : Int) < (l.length : Int) := by omega
  have hi2 : (k : Int) < (s.length : Int) := by omega
  have k1 := HK.out.cell 1
  have k2 := HK.out.cell 2
  go_enter Try.func52, Try.ntmps52
  by_cases hx : x = 1
  · have HR := Lib.hid (HR1.out hx)
    subst hx
    go_wp2_with fail
    go_ret
    exact ⟨ret_int HR.out, HB.out⟩
  · have HR := Lib.hid (HR2.out hx)
    have hb : (x == 1) = false := by simp [hx]
    clear hx
    go_wp2_with fail
    go_ret
    exact ⟨ret_int HR.out, HB.out⟩
end Go.Proofs.Ytdaajncfhcpecaa
