/- The walk of chapter 8's alive. No condition. -/
import Derived.Test.YtdaajncfhcpecaaVTwo
import Derived.Test.YtdaajncfhcpecaaVSame
namespace Go.Proofs.Ytdaajncfhcpecaa
set_option linter.unusedVariables false
set_option linter.unusedSimpArgs false
open Go.RowKit
theorem RI.row {w : World} {e : TypeId} {g : Nat} (l : List Int) (h : w.heap[g]? = some (.cells (ints .i64 l).toArray e (0, 0))) : RI .i64 w (some ⟨g, 0, none⟩) l := fun i hi => by
  refine ⟨_, rfl, ?_⟩
  have hc := cell_of_row w g i _ e (0, 0) h
  rw [show ((ints .i64 l).toArray)[i]? = (ints .i64 l)[i]? by simp, ints_at .i64 l hi] at hc
  by_cases h0 : i = 0
  · subst h0; simpa [Addr.add] using hc
  · simpa [Addr.add, h0] using hc
theorem dense23 (A : Option Addr) (W : World) (h : RI .i64 W A [2, 3]) (hA : A ≠ none) : Calls Try.prog 33 #[.slice A 2 2] W fun e w' => ∃ A1 c1 A2 c2, e = .returned (.tuple #[.agg (view 0 A1 2 c1 A2 2 c2), .int .i64 0]) ∧ RI .i64 w' A1 [2, 3] ∧ RI .i64 w' A2 [3, 1] ∧ Below W.heap.size W w' := by
  refine (Dense_yes A 2 [2, 3] W h (fun e => absurd e hA) Ok23).mono ?_
  rintro e w' ⟨A1, c1, A2, c2, rfl, ho1, ho2, hb⟩
  rw [show S.strides [2, 3] = [3, 1] by decide] at ho2 ⊢
  obtain ⟨_, _, he1, hr1⟩ := ho1.form
  obtain ⟨_, _, he2, hr2⟩ := ho2.form
  injection he1 with e1 _ _
  injection he2 with e2 _ _
  subst e1; subst e2
  exact ⟨A1, c1, A2, c2, rfl, hr1, hr2, hb⟩
theorem permute23 (A B X : Option Addr) (cp cq : Nat) (W : World) (hr : RI .i64 W A [2, 3]) (hs : RI .i64 W B [3, 1]) (hx : RI .i64 W X [1, 0]) :
    Calls Try.prog 35 #[.agg (view 0 A 2 cp B 2 cq), .slice X 2 2] W fun e w' => ∃ A1 c1 A2 c2, e = .returned (.tuple #[.agg (view 0 A1 2 c1 A2 2 c2), .int .i64 0]) ∧ RI .i64 w' A1 [3, 2] ∧ RI .i64 w' A2 [1, 3] ∧ Below W.heap.size W w' := by
  refine (Permute_axes 0 A B X cp cq 2 [2, 3] [3, 1] [1, 0] W hr hs hx (by decide) (by decide) check23 rfl (by decide)).mono ?_
  rintro e w' ⟨hb, ⟨_, A1, c1, A2, c2, rfl, ho1, ho2⟩ | ⟨hng, _⟩⟩
  · rw [show pick [2, 3] [1, 0] = [3, 2] by decide] at ho1
    rw [show pick [3, 1] [1, 0] = [1, 3] by decide] at ho2
    obtain ⟨_, _, he1, hr1⟩ := ho1.form
    obtain ⟨_, _, he2, hr2⟩ := ho2.form
    injection he1 with e1 _ _
    injection he2 with e2 _ _
    subst e1; subst e2
    exact ⟨A1, c1, A2, c2, rfl, hr1, hr2, hb⟩
  · exact absurd good10 hng
theorem cellsOf32 (A B : Option Addr) (cp cq : Nat) (W : World) (hr : RI .i64 W A [3, 2]) (hs : RI .i64 W B [1, 3]) :
    Calls Try.prog 31 #[.agg (view 0 A 2 cp B 2 cq)] W fun e w' => ∃ A1 c1, e = .returned (.slice A1 6 c1) ∧ RI .i64 w' A1 [0, 3, 1, 4, 2, 5] ∧ Below W.heap.size W w' := by
  refine (Cells_any 0 A B cp cq [3, 2] [1, 3] W hr hs (by decide) (by decide)).mono ?_
  rintro e w' ⟨v, rfl, ho, hb⟩
  rw [cells32] at ho
  obtain ⟨A1, c1, rfl, hr1⟩ := ho.form
  exact ⟨A1, c1, rfl, hr1, hb⟩
theorem same6 (A B : Option Addr) (c d : Nat) (W : World) (hr : RI .i64 W A [0, 3, 1, 4, 2, 5]) (hs : RI .i64 W B [0, 3, 1, 4, 2, 5]) : Calls Try.prog 30 #[.slice A 6 c, .slice B 6 d] W fun e w' => e = .returned (.bool true) ∧ Below W.heap.size W w' := by
  refine (same_any A B c d [0, 3, 1, 4, 2, 5] [0, 3, 1, 4, 2, 5] W hr hs (by decide)).mono ?_
  rintro e w' ⟨rfl, hd⟩
  exact ⟨by rw [decide_eq_true rfl], hd.below _⟩
set_option maxHeartbeats 1000000 in
theorem alive8_any (w : World) : Calls Try.prog 25 #[] w fun e w' => e = .returned (.bool true) ∧ Below w.heap.size w w' := by
  go_enter Try.func25, Try.ntmps25
  go_wp2_with fail
  with_reducible refine (dense23 _ _ ?_ (by simp)).mono ?_
  · exact RI.two (e := 3) (heap_alloc_new w _)
  rintro e w1 ⟨A1, c1, A2, c2, rfl, hr1, hr2, hb1⟩
  have HB1 := Lib.hid (below_then ((Below.refl w.heap.size w).alloc (Nat.le_refl _) _) (by simp) hb1)
  have HR1 := Lib.hid hr1
  have HR2 := Lib.hid hr2
  clear hb1 hr1 hr2
  go_wp2_with fail
  with_reducible refine (permute23 _ _ _ _ _ _ ?_ ?_ ?_).mono ?_
  · exact HR1.out.below (((Below.refl _ _).alloc (Nat.le_refl _) _).alloc (by simp) _)
  · exact HR2.out.below (((Below.refl _ _).alloc (Nat.le_refl _) _).alloc (by simp) _)
  · have h := RI.two (e := 3) (a := 1) (b := 0) (heap_alloc_new (w1.alloc (.cells (view 0 A1 2 c1 A2 2 c2) 49)) _)
    rw [World.size_alloc] at h
    exact h
  rintro e w2 ⟨A3, c3, A4, c4, rfl, hr3, hr4, hb2⟩
  have HB2 := Lib.hid (below_then ((HB1.out.alloc HB1.out.size (.cells (view 0 A1 2 c1 A2 2 c2) 49)).alloc (Nat.le_trans HB1.out.size (by simp)) _) (by have := HB1.out.size; simp; omega) hb2)
  have HR3 := Lib.hid hr3
  have HR4 := Lib.hid hr4
  clear hb2 hr3 hr4
  go_wp2_with fail
  with_reducible refine (cellsOf32 _ _ _ _ _ ?_ ?_).mono ?_
  · exact HR3.out.below ((Below.refl _ _).alloc (Nat.le_refl _) _)
  · exact HR4.out.below ((Below.refl _ _).alloc (Nat.le_refl _) _)
  rintro e w3 ⟨A5, c5, rfl, hr5, hb3⟩
  have HB3 := Lib.hid (below_then (HB2.out.alloc HB2.out.size _) (by have := HB2.out.size; simp; omega) hb3)
  have HR5 := Lib.hid hr5
  clear hb3 hr5
  go_wp2_with fail
  with_reducible refine (same6 _ _ _ _ _ ?_ ?_).mono ?_
  · exact HR5.out.below ((Below.refl _ _).alloc (Nat.le_refl _) _)
  · exact RI.row (e := 3) [0, 3, 1, 4, 2, 5] (heap_alloc_new w3 _)
  rintro e w4 ⟨rfl, hb4⟩
  have HB4 := Lib.hid (below_then (HB3.out.alloc HB3.out.size _) (by have := HB3.out.size; simp; omega) hb4)
  clear hb4
  go_wp2_with fail
  go_ret
  exact ⟨rfl, HB4.out⟩
end Go.Proofs.Ytdaajncfhcpecaa
