/- The walks of chapter 7's alive, and of the law ShapeSizes. No condition. -/
import Derived.Test.YtdaajncfhcpecaaNumWalk
namespace Go.Proofs.Ytdaajncfhcpecaa
set_option linter.unusedVariables false
set_option linter.unusedSimpArgs false
open Go.RowKit
/-- What the walk is told of a slice of whole numbers that came in, as a list of its elements. -/
theorem row_of {k : IntKind} {w : World} {a : Option Addr} {len cap : Nat} {zs : List Int}
    (h : (a = none ∧ len = 0 ∧ cap = 0 ∧ zs = []) ∨ ∃ x, a = some x ∧ len ≤ cap ∧ cap ≤ maxLen ∧ zs.length = cap ∧ (∀ i, i < zs.length → w.cell? (x.add i) = some (.int k (zs.getD i 0))) ∧ ∀ n ∈ zs, (Lit.int k n).wf = true) :
    ∃ l : List Int, len = l.length ∧ RI k w a l ∧ l.length ≤ maxLen ∧ l.length ≤ cap ∧ ∀ n ∈ l, (Lit.int k n).wf = true := by
  rcases h with ⟨rfl, rfl, rfl, rfl⟩ | ⟨x, rfl, hl, hc, hz, hcell, hwf⟩
  · exact ⟨[], rfl, RI.nil _ _ _, by simp, by simp, by simp⟩
  · refine ⟨zs.take len, by rw [List.length_take]; omega, fun i hi => ⟨x, rfl, ?_⟩, by rw [List.length_take]; omega, by rw [List.length_take]; omega, fun n hn => hwf n (List.mem_of_mem_take hn)⟩
    rw [List.length_take] at hi
    rw [hcell i (by omega), List.getD_eq_getElem?_getD, List.getD_eq_getElem?_getD, List.getElem?_take, if_pos (by omega)]
theorem RI.two {w : World} {e : TypeId} {a b : Int} {g : Nat} (h : w.heap[g]? = some (.cells #[.int .i64 a, .int .i64 b] e (0, 0))) : RI .i64 w (some ⟨g, 0, none⟩) [a, b] := by
  intro i hi
  refine ⟨_, rfl, ?_⟩
  match i, hi with
  | 0, _ => exact cell_of_row _ _ 0 _ e (0, 0) h
  | 1, _ => exact cell_of_row _ _ 1 _ e (0, 0) h
theorem Ok23 : S.Ok [2, 3] := ⟨by decide, by decide, by decide⟩
theorem number23 (A : Option Addr) (W : World) (h : RI .i64 W A [2, 3]) : Calls Try.prog 19 #[.slice A 2 2, .agg #[.int .i64 1, .int .i64 2, .int .i64 0, .int .i64 0]] W fun e w' => e = .returned (.tuple #[.int .i64 5, .bool true]) ∧ Below W.heap.size W w' := by
  have h2 := Number_ok A 2 [2, 3] 1 2 0 0 W h Ok23
  rw [show S.isL [2, 3] [1, 2, 0, 0] = true by decide, show S.sumL [2, 3] [1, 2, 0, 0] = 5 by decide] at h2
  exact h2
theorem strides23 (A : Option Addr) (W : World) (h : RI .i64 W A [2, 3]) : Calls Try.prog 17 #[.slice A 2 2] W fun e w' => ∃ A2 c2, e = .returned (.slice A2 2 c2) ∧ RI .i64 w' A2 [3, 1] ∧ Below W.heap.size W w' := by
  refine (Strides_yes A 2 [2, 3] W h Ok23).mono ?_
  rintro e w' ⟨v, rfl, ho, hb⟩
  rw [show S.strides [2, 3] = [3, 1] by decide] at ho
  obtain ⟨A2, c2, rfl, hr⟩ := ho.form
  exact ⟨A2, c2, rfl, hr, hb⟩
set_option maxHeartbeats 400000 in
theorem alive_any (w : World) : Calls Try.prog 14 #[] w fun e w' => e = .returned (.bool true) ∧ Below w.heap.size w w' := by
  go_enter Try.func14, Try.ntmps14
  go_wp2_with fail
  with_reducible refine (number23 _ _ ?_).mono ?_
  · exact RI.two (e := 3) (heap_alloc_new w _)
  rintro e w1 ⟨rfl, hb1⟩
  have HB1 := Lib.hid (below_then ((Below.refl w.heap.size w).alloc (Nat.le_refl _) _) (by simp) hb1)
  clear hb1
  go_wp2_with fail
  with_reducible refine (strides23 _ _ ?_).mono ?_
  · exact RI.two (e := 3) (heap_alloc_new w1 _)
  rintro e w2 ⟨A2, c2, rfl, hr2, hb2⟩
  have HB2 := Lib.hid (below_then (HB1.out.alloc HB1.out.size _) (Nat.le_trans HB1.out.size (by simp)) hb2)
  obtain ⟨ad, rfl, hc0⟩ := hr2.at_ (i := 0) (by decide)
  obtain ⟨ad2, had, hc1⟩ := hr2.at_ (i := 1) (by decide)
  obtain rfl : ad = ad2 := by injection had
  rw [show ([3, 1] : List Int).getD 0 0 = 3 by rfl] at hc0
  rw [show ([3, 1] : List Int).getD 1 0 = 1 by rfl] at hc1
  have hc0' : w2.cell? ad = some (.int .i64 3) := hc0
  have hc1' : w2.cell? ⟨ad.block, ad.off + 1, none⟩ = some (.int .i64 1) := hc1
  clear had hb2 hr2 hc0 hc1
  go_wp2_with fail
  go_ret
  exact ⟨rfl, HB2.out⟩

set_option maxHeartbeats 1000000 in
theorem sizes_law (A : Option Addr) (c : Nat) (l : List Int) (w : World) (hr : RI .i64 w A l) (hm : l.length ≤ 9223372036854775807) (hcap : l.length ≤ c) :
    Calls Try.prog 3 #[.slice A l.length c] w fun e w' => e = .returned (.bool true) ∧ Below w.heap.size w w' := by
  have hr' := Lib.hid hr
  clear hr
  by_cases h100 : 100 < l.length
  · go_enter Try.func3, Try.ntmps3
    go_wp2_with fail
    with_reducible refine (alive_any w).mono ?_
    rintro e w1 ⟨rfl, hb1⟩
    go_wp2_with fail
    go_ret
    exact ⟨rfl, hb1⟩
  by_cases hok : S.Ok l
  · have hl := hok.1
    have hp := hok.2.2
    have hp1 := hok.pos
    have C1 := Lib.hid fun (W : World) (h : RI .i64 W A l) => size_any A c l W h hm
    have C2 := Lib.hid fun (W : World) (h : RI .i64 W A l) => refSize_any A c l W h hm
    rw [hok.size] at C1 C2
    have C3 := Lib.hid fun (W : World) (h : RI .i64 W A l) => Strides_yes A c l W h hok
    have C4 := Lib.hid fun (k : Nat) (W : World) (h : RI .i64 W A l) (hk : k < l.length) => Stride_any A c l k W h hcap hok hk
    have HG := Lib.hid fun (k : Nat) (hk : k < l.length) => S.strides_getD l hk
    have HLT := Lib.hid (S.strides_length l)
    clear hok
    generalize S.prod l = n at *
    go_enter Try.func3, Try.ntmps3
    go_wp2_with fail
    with_reducible refine (alive_any w).mono ?_
    rintro e w1 ⟨rfl, hb1⟩
    have HB1 := Lib.hid hb1
    have HR1 := Lib.hid (hr'.out.below hb1)
    clear hb1
    go_wp2_with fail
    with_reducible refine (C1.out w1 HR1.out).mono ?_
    rintro e w' ⟨rfl, rfl⟩
    go_wp2_with fail
    with_reducible refine (C2.out w1 HR1.out).mono ?_
    rintro e w' ⟨rfl, rfl⟩
    go_wp2_with fail
    with_reducible refine (C3.out w1 HR1.out).mono ?_
    rintro e w2 ⟨v, rfl, ho2, hb2⟩
    generalize S.strides l = t at *
    obtain ⟨A2, c2, rfl, hr2⟩ := ho2.form
    rw [HLT.out]
    have HB2 := Lib.hid (below_then HB1.out HB1.out.size hb2)
    have HR2 := Lib.hid hr2
    have HRL := Lib.hid (HR1.out.below hb2)
    clear hb2 hr2 ho2
    go_wp2_with fail
    go_loopw [41] (fun j wr => ∃ k : Nat, k ≤ l.length ∧ j = .int .i64 k ∧ Hid (Drawn w2 wr)) (fun j _ => l.length - (intOf j).toNat)
    case atStart => exact ⟨0, by omega, rfl, Lib.hid (Drawn.refl _)⟩
    case round =>
      obtain ⟨k, hk, rfl, ⟨nd, rfl⟩⟩ := hrel
      by_cases hlt : k < l.length
      · obtain ⟨ad, rfl, hc⟩ := HR2.out.at_ (show k < t.length by have := HLT.out; omega)
        rw [HG.out k hlt] at hc
        have C5 := Lib.hid fun (m : Nat) => C4.out k (w2.drewN m) (HRL.out.drewN m) hlt
        generalize S.stride l k = y at *
        have hi0 : (0 : Int) ≤ (k : Int) := by omega
        have hi1 : (k : Int) < (l.length : Int) := by omega
        go_wp2_with fail
        go_quiet ((go_at_call 18; exact quietN (C5.out _)))
        go_wp2_with fail
        exact ⟨⟨k + 1, by omega, by go_num, Lib.hid ⟨_, rfl⟩⟩, by simp [intOf]; omega⟩
      · go_wp2_with fail
        go_ret
        exact ⟨rfl, below_drewN HB2.out nd⟩
  · have C5 := Lib.hid fun (W : World) (h : RI .i64 W A l) => Strides_no A c l W h hm hok
    have C1 := Lib.hid fun (W : World) (h : RI .i64 W A l) => size_any A c l W h hm
    have C2 := Lib.hid fun (W : World) (h : RI .i64 W A l) => refSize_any A c l W h hm
    rcases S.size_cases l with ho | ⟨ho, h⟩ | ⟨ho, h⟩
    · exact absurd ho hok
    all_goals
      rw [h] at C1 C2
      clear h ho hok
      go_enter Try.func3, Try.ntmps3
      go_wp2_with fail
      with_reducible refine (alive_any w).mono ?_
      rintro e w1 ⟨rfl, hb1⟩
      have HB1 := Lib.hid hb1
      have HR1 := Lib.hid (hr'.out.below hb1)
      clear hb1
      go_wp2_with fail
      with_reducible refine (C1.out w1 HR1.out).mono ?_
      rintro e w' ⟨rfl, rfl⟩
      go_wp2_with fail
      with_reducible refine (C2.out w1 HR1.out).mono ?_
      rintro e w' ⟨rfl, rfl⟩
      go_wp2_with fail
      with_reducible refine (C5.out w1 HR1.out).mono ?_
      rintro e w' ⟨rfl, rfl⟩
      go_wp2_with fail
      go_ret
      exact ⟨rfl, HB1.out⟩
end Go.Proofs.Ytdaajncfhcpecaa
