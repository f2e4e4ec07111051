/- The walk of the law ShapeOnce, out of contracts (written by tools/gen_once.py: the second half stands behind each way through the first). No condition. -/
import Derived.Test.YtdaajncfhcpecaaEqFour
namespace Go.Proofs.Ytdaajncfhcpecaa
set_option linter.unusedVariables false
set_option linter.unusedSimpArgs false
open Go.RowKit
set_option maxHeartbeats 2000000 in
theorem once_law (A : Option Addr) (cp : Nat) (l : List Int) (a b c d n : Int) (w : World) (hr : RI .i64 w A l) (hm : l.length ≤ 9223372036854775807) :
    Calls Try.prog 5 #[.slice A l.length cp, .agg (four a b c d), .int .i64 n] w fun e w' => e = .returned (.bool true) ∧ Below w.heap.size w w' := by
  have hr' := Lib.hid hr
  clear hr
  have HB0 := Lib.hid ((Below.refl w.heap.size w).alloc (Nat.le_refl _) (.cells (four a b c d) 33))
  have HBK := Lib.hid (Blk.new w 33 (four a b c d))
  have HAL := Lib.hid (alive_any (w.alloc (.cells (four a b c d) 33)))
  have he := fun (W : World) => eql_four 33 arr33 a b c d W
  have hn := fun (W : World) => neq_four 33 arr33 a b c d W
  by_cases h100 : 100 < l.length
  · go_enter Try.func5, Try.ntmps5
    go_wp2_with fail
    with_reducible refine HAL.out.mono ?_
    rintro e w1 ⟨rfl, hb1⟩
    have HB1 := Lib.hid (below_then HB0.out HB0.out.size hb1)
    clear hb1
    go_wp2_with fail
    go_ret
    exact ⟨rfl, HB1.out⟩
  go_enter Try.func5, Try.ntmps5
  go_wp2_with fail
  with_reducible refine HAL.out.mono ?_
  rintro e w1 ⟨rfl, hb1⟩
  have HB1 := Lib.hid (below_then HB0.out HB0.out.size hb1)
  have HR1 := Lib.hid (hr'.out.below HB1.out)
  have HK1 := Lib.hid (HBK.out.below hb1 (by simp))
  clear hb1
  have c0 := HK1.out.cell 0
  have c1 := HK1.out.cell 1
  have c2 := HK1.out.cell 2
  have c3 := HK1.out.cell 3
  by_cases hok : S.Ok l
  · have CN := Lib.hid (Number_ok A cp l a b c d w1 HR1.out hok)
    cases hz : S.isL l [a, b, c, d] with
    | true =>
      have hsb := S.sumL_bound l [a, b, c, d] (by show l.length ≤ 4; exact hok.1) hok.2.1 hz
      have hpd := S.at_num hok (i := [a, b, c, d]) rfl hz
      have CA2 := Lib.hid fun (V : World) (h : RI .i64 V A l) => At_yes A cp l (S.sumL l [a, b, c, d]) a b c d V h hok hsb.1 hsb.2 hpd
      rw [hz, if_pos rfl] at CN
      clear hz hsb hpd hok
      generalize S.sumL l [a, b, c, d] = k at *
      go_wp2_with fail
      with_reducible refine CN.out.mono ?_
      rintro e w2 ⟨rfl, hb2⟩
      have HB2 := Lib.hid (below_then HB1.out HB1.out.size hb2)
      have HR2 := Lib.hid (hr'.out.below HB2.out)
      have HK2 := Lib.hid (HK1.out.below hb2 HK1.out.lt)
      clear hb2 c0 c1 c2 c3
      go_wp2_with fail
      with_reducible refine (CA2.out w2 HR2.out).mono ?_
      rintro e w3 ⟨rfl, hb3⟩
      have HB3 := Lib.hid (below_then HB2.out HB2.out.size hb3)
      have HK3 := Lib.hid (HK2.out.below hb3 HK2.out.lt)
      clear hb3
      have c0 := (HK3.out.alloc (.cells (four a b c d) 33)).cell 0
      have c1 := (HK3.out.alloc (.cells (four a b c d) 33)).cell 1
      have c2 := (HK3.out.alloc (.cells (four a b c d) 33)).cell 2
      have c3 := (HK3.out.alloc (.cells (four a b c d) 33)).cell 3
      have HBx := Lib.hid (HB3.out.alloc HB3.out.size (.cells (four a b c d) 33))
      have HRx := Lib.hid (hr'.out.below HBx.out)
      by_cases hin : S.Ok l ∧ 0 ≤ n ∧ n < S.prod l
      · obtain ⟨ho, h0, h1⟩ := hin
        obtain ⟨x0, x1, x2, x3, hx⟩ := list_four (S.pad_length (x := S.atL l n) (by rw [S.atL_length]; exact ho.1))
        have CA := Lib.hid (At_yes A cp l n x0 x1 x2 x3 _ HRx.out ho h0 h1 hx)
        have hna := S.num_at ho h0 h1
        rw [hx] at hna
        have CN := Lib.hid fun (V : World) (h : RI .i64 V A l) => Number_ok A cp l x0 x1 x2 x3 V h ho
        rw [hna.1, hna.2] at CN
        clear ho h0 h1 hna hx
        go_wp2_with fail
        with_reducible refine CA.out.mono ?_
        rintro e wa ⟨rfl, hba⟩
        have HBA := Lib.hid (below_then HBx.out HBx.out.size hba)
        clear hba
        go_wp2_with fail
        with_reducible refine (CN.out _ ?_).mono ?_
        · exact (hr'.out.below HBA.out).below ((Below.refl _ _).alloc (Nat.le_refl _) _)
        rintro e wb ⟨rfl, hbb⟩
        have HBB := Lib.hid (below_then (HBA.out.alloc HBA.out.size _) (Nat.le_trans HBA.out.size (by simp)) hbb)
        clear hbb
        go_wp2_with fail
        go_ret
        exact ⟨rfl, HBB.out⟩
      · have CA := Lib.hid (At_no A cp l n _ HRx.out hm hin)
        clear hin
        go_wp2_with fail
        with_reducible refine CA.out.mono ?_
        rintro e wa ⟨rfl, hba⟩
        have HBA := Lib.hid (below_then HBx.out HBx.out.size hba)
        clear hba
        by_cases hok : S.Ok l
        · have CN := Lib.hid fun (V : World) (h : RI .i64 V A l) => Number_ok A cp l 0 0 0 0 V h hok
          cases hz : S.isL l [0, 0, 0, 0] with
          | true =>
            rw [hz, if_pos rfl] at CN
            clear hok hz
            go_wp2_with fail
            with_reducible refine (CN.out _ ?_).mono ?_
            · exact (hr'.out.below HBA.out).below ((Below.refl _ _).alloc (Nat.le_refl _) _)
            rintro e wb ⟨rfl, hbb⟩
            have HBB := Lib.hid (below_then (HBA.out.alloc HBA.out.size _) (Nat.le_trans HBA.out.size (by simp)) hbb)
            clear hbb
            go_wp2_with fail
            go_ret
            exact ⟨rfl, HBB.out⟩
          | false =>
            rw [hz, if_neg (by decide)] at CN
            clear hok hz
            go_wp2_with fail
            with_reducible refine (CN.out _ ?_).mono ?_
            · exact (hr'.out.below HBA.out).below ((Below.refl _ _).alloc (Nat.le_refl _) _)
            rintro e wb ⟨rfl, hbb⟩
            have HBB := Lib.hid (below_then (HBA.out.alloc HBA.out.size _) (Nat.le_trans HBA.out.size (by simp)) hbb)
            clear hbb
            go_wp2_with fail
            go_ret
            exact ⟨rfl, HBB.out⟩
        · have CN := Lib.hid fun (V : World) (h : RI .i64 V A l) => Number_bad A cp l 0 0 0 0 V h hm hok
          clear hok
          go_wp2_with fail
          with_reducible refine (CN.out _ ?_).mono ?_
          · exact (hr'.out.below HBA.out).below ((Below.refl _ _).alloc (Nat.le_refl _) _)
          rintro e wb ⟨rfl, hbb⟩
          have HBB := Lib.hid (below_then (HBA.out.alloc HBA.out.size _) (Nat.le_trans HBA.out.size (by simp)) hbb)
          clear hbb
          go_wp2_with fail
          go_ret
          exact ⟨rfl, HBB.out⟩
    | false =>
      rw [hz, if_neg (by decide)] at CN
      clear hz hok
      go_wp2_with fail
      with_reducible refine CN.out.mono ?_
      rintro e w2 ⟨rfl, hb2⟩
      have HBw2 := Lib.hid (below_then HB1.out HB1.out.size hb2)
      have HRw2 := Lib.hid (hr'.out.below HBw2.out)
      clear hb2 c0 c1 c2 c3
      by_cases hin : S.Ok l ∧ 0 ≤ n ∧ n < S.prod l
      · obtain ⟨ho, h0, h1⟩ := hin
        obtain ⟨x0, x1, x2, x3, hx⟩ := list_four (S.pad_length (x := S.atL l n) (by rw [S.atL_length]; exact ho.1))
        have CA := Lib.hid (At_yes A cp l n x0 x1 x2 x3 w2 HRw2.out ho h0 h1 hx)
        have hna := S.num_at ho h0 h1
        rw [hx] at hna
        have CN := Lib.hid fun (V : World) (h : RI .i64 V A l) => Number_ok A cp l x0 x1 x2 x3 V h ho
        rw [hna.1, hna.2] at CN
        clear ho h0 h1 hna hx
        go_wp2_with fail
        with_reducible refine CA.out.mono ?_
        rintro e wa ⟨rfl, hba⟩
        have HBA := Lib.hid (below_then HBw2.out HBw2.out.size hba)
        clear hba
        go_wp2_with fail
        with_reducible refine (CN.out _ ?_).mono ?_
        · exact (hr'.out.below HBA.out).below ((Below.refl _ _).alloc (Nat.le_refl _) _)
        rintro e wb ⟨rfl, hbb⟩
        have HBB := Lib.hid (below_then (HBA.out.alloc HBA.out.size _) (Nat.le_trans HBA.out.size (by simp)) hbb)
        clear hbb
        go_wp2_with fail
        go_ret
        exact ⟨rfl, HBB.out⟩
      · have CA := Lib.hid (At_no A cp l n w2 HRw2.out hm hin)
        clear hin
        go_wp2_with fail
        with_reducible refine CA.out.mono ?_
        rintro e wa ⟨rfl, hba⟩
        have HBA := Lib.hid (below_then HBw2.out HBw2.out.size hba)
        clear hba
        by_cases hok : S.Ok l
        · have CN := Lib.hid fun (V : World) (h : RI .i64 V A l) => Number_ok A cp l 0 0 0 0 V h hok
          cases hz : S.isL l [0, 0, 0, 0] with
          | true =>
            rw [hz, if_pos rfl] at CN
            clear hok hz
            go_wp2_with fail
            with_reducible refine (CN.out _ ?_).mono ?_
            · exact (hr'.out.below HBA.out).below ((Below.refl _ _).alloc (Nat.le_refl _) _)
            rintro e wb ⟨rfl, hbb⟩
            have HBB := Lib.hid (below_then (HBA.out.alloc HBA.out.size _) (Nat.le_trans HBA.out.size (by simp)) hbb)
            clear hbb
            go_wp2_with fail
            go_ret
            exact ⟨rfl, HBB.out⟩
          | false =>
            rw [hz, if_neg (by decide)] at CN
            clear hok hz
            go_wp2_with fail
            with_reducible refine (CN.out _ ?_).mono ?_
            · exact (hr'.out.below HBA.out).below ((Below.refl _ _).alloc (Nat.le_refl _) _)
            rintro e wb ⟨rfl, hbb⟩
            have HBB := Lib.hid (below_then (HBA.out.alloc HBA.out.size _) (Nat.le_trans HBA.out.size (by simp)) hbb)
            clear hbb
            go_wp2_with fail
            go_ret
            exact ⟨rfl, HBB.out⟩
        · have CN := Lib.hid fun (V : World) (h : RI .i64 V A l) => Number_bad A cp l 0 0 0 0 V h hm hok
          clear hok
          go_wp2_with fail
          with_reducible refine (CN.out _ ?_).mono ?_
          · exact (hr'.out.below HBA.out).below ((Below.refl _ _).alloc (Nat.le_refl _) _)
          rintro e wb ⟨rfl, hbb⟩
          have HBB := Lib.hid (below_then (HBA.out.alloc HBA.out.size _) (Nat.le_trans HBA.out.size (by simp)) hbb)
          clear hbb
          go_wp2_with fail
          go_ret
          exact ⟨rfl, HBB.out⟩
  · have CN := Lib.hid (Number_bad A cp l a b c d w1 HR1.out hm hok)
    clear hok
    go_wp2_with fail
    with_reducible refine CN.out.mono ?_
    rintro e w2 ⟨rfl, hb2⟩
    have HBw2 := Lib.hid (below_then HB1.out HB1.out.size hb2)
    have HRw2 := Lib.hid (hr'.out.below HBw2.out)
    clear hb2 c0 c1 c2 c3
    by_cases hin : S.Ok l ∧ 0 ≤ n ∧ n < S.prod l
    · obtain ⟨ho, h0, h1⟩ := hin
      obtain ⟨x0, x1, x2, x3, hx⟩ := list_four (S.pad_length (x := S.atL l n) (by rw [S.atL_length]; exact ho.1))
      have CA := Lib.hid (At_yes A cp l n x0 x1 x2 x3 w2 HRw2.out ho h0 h1 hx)
      have hna := S.num_at ho h0 h1
      rw [hx] at hna
      have CN := Lib.hid fun (V : World) (h : RI .i64 V A l) => Number_ok A cp l x0 x1 x2 x3 V h ho
      rw [hna.1, hna.2] at CN
      clear ho h0 h1 hna hx
      go_wp2_with fail
      with_reducible refine CA.out.mono ?_
      rintro e wa ⟨rfl, hba⟩
      have HBA := Lib.hid (below_then HBw2.out HBw2.out.size hba)
      clear hba
      go_wp2_with fail
      with_reducible refine (CN.out _ ?_).mono ?_
      · exact (hr'.out.below HBA.out).below ((Below.refl _ _).alloc (Nat.le_refl _) _)
      rintro e wb ⟨rfl, hbb⟩
      have HBB := Lib.hid (below_then (HBA.out.alloc HBA.out.size _) (Nat.le_trans HBA.out.size (by simp)) hbb)
      clear hbb
      go_wp2_with fail
      go_ret
      exact ⟨rfl, HBB.out⟩
    · have CA := Lib.hid (At_no A cp l n w2 HRw2.out hm hin)
      clear hin
      go_wp2_with fail
      with_reducible refine CA.out.mono ?_
      rintro e wa ⟨rfl, hba⟩
      have HBA := Lib.hid (below_then HBw2.out HBw2.out.size hba)
      clear hba
      by_cases hok : S.Ok l
      · have CN := Lib.hid fun (V : World) (h : RI .i64 V A l) => Number_ok A cp l 0 0 0 0 V h hok
        cases hz : S.isL l [0, 0, 0, 0] with
        | true =>
          rw [hz, if_pos rfl] at CN
          clear hok hz
          go_wp2_with fail
          with_reducible refine (CN.out _ ?_).mono ?_
          · exact (hr'.out.below HBA.out).below ((Below.refl _ _).alloc (Nat.le_refl _) _)
          rintro e wb ⟨rfl, hbb⟩
          have HBB := Lib.hid (below_then (HBA.out.alloc HBA.out.size _) (Nat.le_trans HBA.out.size (by simp)) hbb)
          clear hbb
          go_wp2_with fail
          go_ret
          exact ⟨rfl, HBB.out⟩
        | false =>
          rw [hz, if_neg (by decide)] at CN
          clear hok hz
          go_wp2_with fail
          with_reducible refine (CN.out _ ?_).mono ?_
          · exact (hr'.out.below HBA.out).below ((Below.refl _ _).alloc (Nat.le_refl _) _)
          rintro e wb ⟨rfl, hbb⟩
          have HBB := Lib.hid (below_then (HBA.out.alloc HBA.out.size _) (Nat.le_trans HBA.out.size (by simp)) hbb)
          clear hbb
          go_wp2_with fail
          go_ret
          exact ⟨rfl, HBB.out⟩
      · have CN := Lib.hid fun (V : World) (h : RI .i64 V A l) => Number_bad A cp l 0 0 0 0 V h hm hok
        clear hok
        go_wp2_with fail
        with_reducible refine (CN.out _ ?_).mono ?_
        · exact (hr'.out.below HBA.out).below ((Below.refl _ _).alloc (Nat.le_refl _) _)
        rintro e wb ⟨rfl, hbb⟩
        have HBB := Lib.hid (below_then (HBA.out.alloc HBA.out.size _) (Nat.le_trans HBA.out.size (by simp)) hbb)
        clear hbb
        go_wp2_with fail
        go_ret
        exact ⟨rfl, HBB.out⟩
end Go.Proofs.Ytdaajncfhcpecaa
