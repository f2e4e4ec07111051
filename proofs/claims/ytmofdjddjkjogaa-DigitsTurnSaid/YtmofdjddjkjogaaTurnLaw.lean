/- The walk of the law DigitsTurn, out of contracts. No condition. -/
import Derived.Test.YtmofdjddjkjogaaDWalk3
namespace Go.Proofs.Ytmofdjddjkjogaa
set_option linter.unusedVariables false
set_option linter.unusedSimpArgs false
open Go.RowKit
set_option maxHeartbeats 400000 in
theorem Table_no (A : Option Addr) (c : Nat) (l : List Int) (w : World) (hr : RI .i64 w A l) (hm : l.length ≤ 9223372036854775807) (hno : ¬ D.Ok l) :
    Calls Try.prog 15 #[.slice A l.length c] w fun e w' => e = .returned (.slice none 0 0) ∧ w = w' := by
  have c1 := size_any A c l w hr hm
  rcases D.sizeD_cases l with ⟨ho, h⟩ | ⟨ho, h⟩ | ⟨ho, h⟩
  · exact absurd ho hno
  all_goals
    rw [h] at c1
    have C1 := Lib.hid c1
    clear c1 h hno hr ho
    go_enter Try.func15, Try.ntmps15
    go_wp2_with fail
    refine C1.out.mono ?_
    rintro e w' ⟨rfl, rfl⟩
    go_wp2_with fail
    go_ret
    exact ⟨rfl, rfl⟩

set_option maxHeartbeats 1000000 in
theorem turn_law (A : Option Addr) (c : Nat) (l : List Int) (i : Int) (w : World) (hr : RI .i64 w A l) (hm : l.length ≤ 9223372036854775807) :
    Calls Try.prog 5 #[.slice A l.length c, .int .i64 i] w fun e w' => e = .returned (.bool true) ∧ Below w.heap.size w w' := by
  have hr' := Lib.hid hr
  clear hr
  by_cases h100 : 100 < l.length
  · go_enter Try.func5, Try.ntmps5
    go_wp2_with fail
    refine (alive_any w).mono ?_
    rintro e w1 ⟨rfl, hb1⟩
    go_wp2_with fail
    go_ret
    exact ⟨rfl, hb1⟩
  · by_cases hok : D.Ok l
    · obtain ⟨n, hn⟩ : ∃ n : Nat, D.prod l = n := ⟨(D.prod l).toNat, by have := hok.pos; omega⟩
      have hp := hok.2.2
      have hl := hok.1
      rw [hn] at hp
      have C1 := Lib.hid fun (W : World) (h : RI .i64 W A l) => size_any A c l W h hm
      have C2 := Lib.hid fun (W : World) (h : RI .i64 W A l) => refSize_any A c l W h hm
      rw [hok.size, hn] at C1 C2
      have C3 := Lib.hid fun (W : World) (h : RI .i64 W A l) (h0 : 0 ≤ i) (h1 : i < n) => Turn_yes A c l i W h hok h0 (by rw [hn]; exact h1)
      have C4 := Lib.hid fun (W : World) (h : RI .i64 W A l) (hno : ¬ (0 ≤ i ∧ i < n)) => Turn_no A c l i W h hm (by rw [hn]; exact fun h => hno h.2)
      have C5 := Lib.hid fun (W : World) (h : RI .i64 W A l) => Table_yes A c l n W h hok hn
      have C6 := Lib.hid fun (k : Nat) (W : World) (h : RI .i64 W A l) (hk : k < n) => refTurn_any A c l k W h hok (by omega) (by omega)
      have HG := Lib.hid fun (k : Nat) (hk : k < n) => D.map_getD (fun i : Nat => D.turnD l i) hk
      have HLT := Lib.hid (show ((List.range n).map fun i : Nat => D.turnD l i).length = n by simp)
      clear hok hn
      have hcase : (0 ≤ i ∧ i < n) ∨ ¬ (0 ≤ i ∧ i < n) := Decidable.em _
      rcases hcase with hi | hi
      · obtain ⟨m, rfl⟩ : ∃ m : Nat, i = m := ⟨i.toNat, by omega⟩
        have hi2 : m < n := by omega
        clear hi
        have HM := Lib.hid (HG.out m hi2)
        have C3' := Lib.hid fun (W : World) (h : RI .i64 W A l) => C3.out W h (by omega) (by omega)
        generalize D.turnD l m = x at HM C3'
        go_enter Try.func5, Try.ntmps5
        go_wp2_with fail
        refine (alive_any w).mono ?_
        rintro e w1 ⟨rfl, hb1⟩
        have HB1 := Lib.hid hb1
        have HR1 := Lib.hid (hr'.out.below hb1)
        clear hb1
        go_wp2_with fail
        refine (C1.out w1 HR1.out).mono ?_
        rintro e w' ⟨rfl, rfl⟩
        go_wp2_with fail
        refine (C2.out w1 HR1.out).mono ?_
        rintro e w' ⟨rfl, rfl⟩
        go_wp2_with fail
        refine (C3'.out w1 HR1.out).mono ?_
        rintro e w' ⟨rfl, rfl⟩
        go_wp2_with fail
        refine (C5.out w1 HR1.out).mono ?_
        rintro e w2 ⟨v, rfl, ho2, hb2⟩
        generalize ((List.range n).map fun i : Nat => D.turnD l i) = t at *
        obtain ⟨A2, c2, rfl, hr2⟩ := ho2.form
        rw [HLT.out]
        have HB2 := Lib.hid (below_then HB1.out HB1.out.size hb2)
        have HR2 := Lib.hid hr2
        have HRL := Lib.hid (HR1.out.below hb2)
        clear hb2 hr2 ho2
        go_wp2_with fail
        go_loopw [75] (fun j wr => ∃ k : Nat, k ≤ n ∧ j = .int .i64 k ∧ Hid (Below w2.heap.size w2 wr)) (fun j _ => n - (intOf j).toNat)
        case atStart => exact ⟨0, by omega, rfl, Lib.hid (Below.refl _ _)⟩
        case round =>
          obtain ⟨k, hk, rfl, HB⟩ := hrel
          by_cases hlt : k < n
          · obtain ⟨ad, rfl, hc⟩ := (HR2.out.below HB.out).at_ (show k < t.length by have := HLT.out; omega)
            have C7 := Lib.hid (C6.out k wr (HRL.out.below HB.out) hlt)
            rw [HG.out k hlt] at hc
            generalize D.turnD l k = y at *
            go_wp2_with fail
            refine C7.out.mono ?_
            rintro e w3 ⟨rfl, hb3⟩
            have HB3 := Lib.hid (below_then HB.out HB.out.size hb3)
            clear hb3
            go_wp2_with fail
            go_roundw
            case rel => exact ⟨k + 1, by omega, by go_num, HB3⟩
            case measure => simp [intOf]; omega
          · obtain ⟨ad, rfl, hc⟩ := (HR2.out.below HB.out).at_ (show m < t.length by have := HLT.out; omega)
            rw [HM.out] at hc
            go_wp2_with fail
            go_ret
            exact ⟨rfl, below_then HB2.out HB2.out.size HB.out⟩
      · have C4' := Lib.hid fun (W : World) (h : RI .i64 W A l) => C4.out W h hi
        have hi2 : i < 0 ∨ (n : Int) ≤ i := by omega
        have HI := Lib.hid hi
        clear hi
        go_enter Try.func5, Try.ntmps5
        go_wp2_with fail
        refine (alive_any w).mono ?_
        rintro e w1 ⟨rfl, hb1⟩
        have HB1 := Lib.hid hb1
        have HR1 := Lib.hid (hr'.out.below hb1)
        clear hb1
        go_wp2_with fail
        refine (C1.out w1 HR1.out).mono ?_
        rintro e w' ⟨rfl, rfl⟩
        go_wp2_with fail
        refine (C2.out w1 HR1.out).mono ?_
        rintro e w' ⟨rfl, rfl⟩
        go_wp2_with fail
        refine (C4'.out w1 HR1.out).mono ?_
        rintro e w' ⟨rfl, rfl⟩
        go_wp2_with fail
        refine (C5.out w1 HR1.out).mono ?_
        rintro e w2 ⟨v, rfl, ho2, hb2⟩
        generalize ((List.range n).map fun i : Nat => D.turnD l i) = t at *
        obtain ⟨A2, c2, rfl, hr2⟩ := ho2.form
        rw [HLT.out]
        have HB2 := Lib.hid (below_then HB1.out HB1.out.size hb2)
        have HR2 := Lib.hid hr2
        have HRL := Lib.hid (HR1.out.below hb2)
        clear hb2 hr2 ho2
        by_cases h0 : i < 0
        all_goals
          have h0' : 0 ≤ i → (n : Int) ≤ i := by omega
          clear hi2
          try (have hge : (n : Int) ≤ i := by omega)
          clear h0'
          go_wp2_with fail
          go_loopw [75] (fun j wr => ∃ k : Nat, k ≤ n ∧ j = .int .i64 k ∧ Hid (Below w2.heap.size w2 wr)) (fun j _ => n - (intOf j).toNat)
          case atStart => exact ⟨0, by omega, rfl, Lib.hid (Below.refl _ _)⟩
          case round =>
            obtain ⟨k, hk, rfl, HB⟩ := hrel
            by_cases hlt : k < n
            · obtain ⟨ad, rfl, hc⟩ := (HR2.out.below HB.out).at_ (show k < t.length by have := HLT.out; omega)
              have C7 := Lib.hid (C6.out k wr (HRL.out.below HB.out) hlt)
              rw [HG.out k hlt] at hc
              generalize D.turnD l k = y at *
              go_wp2_with fail
              refine C7.out.mono ?_
              rintro e w3 ⟨rfl, hb3⟩
              have HB3 := Lib.hid (below_then HB.out HB.out.size hb3)
              clear hb3
              go_wp2_with fail
              go_roundw
              case rel => exact ⟨k + 1, by omega, by go_num, HB3⟩
              case measure => simp [intOf]; omega
            · go_wp2_with fail
              go_ret
              exact ⟨rfl, below_then HB2.out HB2.out.size HB.out⟩
    · have C5 := Lib.hid fun (W : World) (h : RI .i64 W A l) => Table_no A c l W h hm hok
      have C4 := Lib.hid fun (W : World) (h : RI .i64 W A l) => Turn_no A c l i W h hm fun h => hok h.1
      have C1 := Lib.hid fun (W : World) (h : RI .i64 W A l) => size_any A c l W h hm
      have C2 := Lib.hid fun (W : World) (h : RI .i64 W A l) => refSize_any A c l W h hm
      rcases D.sizeD_cases l with ⟨ho, h⟩ | ⟨ho, h⟩ | ⟨ho, h⟩
      · exact absurd ho hok
      all_goals
        rw [h] at C1 C2
        clear h ho hok
        go_enter Try.func5, Try.ntmps5
        go_wp2_with fail
        refine (alive_any w).mono ?_
        rintro e w1 ⟨rfl, hb1⟩
        have HB1 := Lib.hid hb1
        have HR1 := Lib.hid (hr'.out.below hb1)
        clear hb1
        go_wp2_with fail
        refine (C1.out w1 HR1.out).mono ?_
        rintro e w' ⟨rfl, rfl⟩
        go_wp2_with fail
        refine (C2.out w1 HR1.out).mono ?_
        rintro e w' ⟨rfl, rfl⟩
        go_wp2_with fail
        refine (C4.out w1 HR1.out).mono ?_
        rintro e w' ⟨rfl, rfl⟩
        go_wp2_with fail
        refine (C5.out w1 HR1.out).mono ?_
        rintro e w' ⟨rfl, rfl⟩
        go_wp2_with fail
        go_ret
        exact ⟨rfl, HB1.out⟩
end Go.Proofs.Ytmofdjddjkjogaa
