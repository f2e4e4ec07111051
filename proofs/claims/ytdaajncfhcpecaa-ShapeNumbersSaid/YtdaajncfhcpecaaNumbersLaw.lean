/- The walk of the law ShapeNumbers, out of contracts (written by tools/gen_numbers.py: one walk for each way through). No condition. -/
import Derived.Test.YtdaajncfhcpecaaEqFour
import Derived.Deep.RegionWith
namespace Go.Proofs.Ytdaajncfhcpecaa
set_option linter.unusedVariables false
set_option linter.unusedSimpArgs false
open Go.RowKit
theorem four_list (x y z u : Int) {v : Int} {i : Nat} (hi : i < 4) (h : [x, y, z, u].getD i 0 = v) : (four x y z u)[i]? = some (.int .i64 v) := by
  rw [four_get x y z u i hi, h]
set_option maxHeartbeats 4000000 in
theorem numbers_law (A : Option Addr) (cp : Nat) (l : List Int) (a b c d n : Int) (w : World) (hr : RI .i64 w A l) (hm : l.length ≤ 9223372036854775807) (hcap : l.length ≤ cp) (hn64 : n ≤ 9223372036854775807) :
    Calls Try.prog 4 #[.slice A l.length cp, .agg (four a b c d), .int .i64 n] w fun e w' => e = .returned (.bool true) ∧ Below w.heap.size w w' := by
  have hr' := Lib.hid hr
  clear hr
  have HB0 := Lib.hid ((Below.refl w.heap.size w).alloc (Nat.le_refl _) (.cells (four a b c d) 33))
  have HBK := Lib.hid (Blk.new w 33 (four a b c d))
  have HAL := Lib.hid (alive_any (w.alloc (.cells (four a b c d) 33)))
  have hez := fun (W : World) => eql_four 33 arr33 0 0 0 0 W
  by_cases h100 : 100 < l.length
  · go_enter Try.func4, Try.ntmps4
    go_wp2_with fail
    with_reducible refine HAL.out.mono ?_
    rintro e w1 ⟨rfl, hb1⟩
    have HB1 := Lib.hid (below_then HB0.out HB0.out.size hb1)
    clear hb1
    go_wp2_with fail
    go_ret
    exact ⟨rfl, HB1.out⟩
  go_enter Try.func4, Try.ntmps4
  go_wp2_with fail
  with_reducible refine HAL.out.mono ?_
  rintro e w1 ⟨rfl, hb1⟩
  have HB1 := Lib.hid (below_then HB0.out HB0.out.size hb1)
  have HR1 := Lib.hid (hr'.out.below HB1.out)
  have HK1 := Lib.hid (HBK.out.below hb1 (by simp))
  clear hb1
  have c0 := HK1.out.cell 0
  have c1 := HK1.out.cell 1
  have c2 := HK1.out.cell 2
  have c3 := HK1.out.cell 3
  rcases S.size_cases l with hok | ⟨ho, h⟩ | ⟨ho, h⟩
  · by_cases hin : 0 ≤ n ∧ n < S.prod l
    · cases hz : S.isL l [a, b, c, d] with
      | true =>
        have CS := Lib.hid (refSize_any A cp l w1 HR1.out hm)
        rw [hok.size] at CS
        have CN := Lib.hid (Number_ok A cp l a b c d w1 HR1.out hok)
        have CI := Lib.hid fun (V : World) (h : RI .i64 V A l) => Is_ok A cp l a b c d V h hok
        rw [hz] at CN CI
        rw [if_pos rfl] at CN
        have CR := Lib.hid fun (V : World) (h : RI .i64 V A l) => refNumber_any A cp l a b c d V h hcap hok hz
        obtain ⟨h0, h1⟩ := hin
        obtain ⟨x0, x1, x2, x3, hx⟩ := list_four (S.pad_length (x := S.atL l n) (by rw [S.atL_length]; exact hok.1))
        have CA := Lib.hid fun (V : World) (h : RI .i64 V A l) => At_yes A cp l n x0 x1 x2 x3 V h hok h0 h1 hx
        have CT := Lib.hid fun (V : World) (h : RI .i64 V A l) => refAt_any A cp l n x0 x1 x2 x3 V h hcap hok h0 hn64 hx
        have hex := fun (W : World) => eql_four 32 arr32 x0 x1 x2 x3 W
        clear hx
        clear hok hz
        generalize S.sumL l [a, b, c, d] = k at *
        generalize S.prod l = p at *
        go_wp2_with fail
        with_reducible refine CS.out.mono ?_
        rintro e w' ⟨rfl, rfl⟩
        go_wp2_with fail
        with_reducible refine CN.out.mono ?_
        rintro e w2 ⟨rfl, hb2⟩
        have HB2 := Lib.hid (below_then HB1.out HB1.out.size hb2)
        have HR2 := Lib.hid (hr'.out.below HB2.out)
        have HK2 := Lib.hid (HK1.out.below hb2 HK1.out.lt)
        clear hb2 c0 c1 c2 c3
        go_wp2_with fail
        with_reducible refine (CA.out w2 HR2.out).mono ?_
        rintro e w3 ⟨rfl, hb3⟩
        have HB3 := Lib.hid (below_then HB2.out HB2.out.size hb3)
        have HK3 := Lib.hid ((HK2.out.below hb3 HK2.out.lt).alloc (.cells (four x0 x1 x2 x3) 33))
        have HX3 := Lib.hid (Blk.new w3 33 (four x0 x1 x2 x3))
        have HBx := Lib.hid (HB3.out.alloc HB3.out.size (.cells (four x0 x1 x2 x3) 33))
        have HRx := Lib.hid (hr'.out.below HBx.out)
        have c0 := HK3.out.cell 0
        have c1 := HK3.out.cell 1
        have c2 := HK3.out.cell 2
        have c3 := HK3.out.cell 3
        clear hb3
        go_wp2_with fail
        with_reducible refine (CI.out _ HRx.out).mono ?_
        rintro e w4 ⟨rfl, hb4⟩
        have HB4 := Lib.hid (below_then HBx.out HBx.out.size hb4)
        have HR4 := Lib.hid (hr'.out.below HB4.out)
        have HK4 := Lib.hid (HK3.out.below hb4 HK3.out.lt)
        have HX4 := Lib.hid (HX3.out.below hb4 HX3.out.lt)
        clear hb4 c0 c1 c2 c3
        have c0 := HK4.out.cell 0
        have c1 := HK4.out.cell 1
        have c2 := HK4.out.cell 2
        have c3 := HK4.out.cell 3
        have x0c := HX4.out.cell 0
        have x1c := HX4.out.cell 1
        have x2c := HX4.out.cell 2
        have x3c := HX4.out.cell 3
        go_wp2_with fail
        with_reducible refine (CR.out _ HR4.out).mono ?_
        rintro e w5 ⟨rfl, hb5⟩
        have HB5 := Lib.hid (below_then HB4.out HB4.out.size hb5)
        have HR5 := Lib.hid (hr'.out.below HB5.out)
        have HX5 := Lib.hid (HX4.out.below hb5 HX4.out.lt)
        clear hb5 c0 c1 c2 c3 x0c x1c x2c x3c
        have x0c := HX5.out.cell 0
        have x1c := HX5.out.cell 1
        have x2c := HX5.out.cell 2
        have x3c := HX5.out.cell 3
        go_wp2_with fail
        have HD := Lib.hid (CT.out w5.drew (show RI .i64 w5.drew A l from HR5.out))
        have HXN := Lib.hid (show Blk w5.drew (w3.heap.size) 33 (four x0 x1 x2 x3) from HX5.out)
        have HBN := Lib.hid (show Below w.heap.size w w5.drew from HB5.out.drew)
        go_region_with (go_at_call 23; with_reducible refine HD.out.mono ?_; rintro e w6 ⟨rfl, hb6⟩; have HB6 := Lib.hid (below_then HBN.out HBN.out.size hb6); have HX6 := Lib.hid (HXN.out.below hb6 HXN.out.lt); clear hb6 x0c x1c x2c x3c; have x0c := HX6.out.cell 0; have x1c := HX6.out.cell 1; have x2c := HX6.out.cell 2; have x3c := HX6.out.cell 3)
        all_goals
          go_wp2_with fail
          go_ret
          exact ⟨rfl, HB6.out⟩
      | false =>
        have CS := Lib.hid (refSize_any A cp l w1 HR1.out hm)
        rw [hok.size] at CS
        have CN := Lib.hid (Number_ok A cp l a b c d w1 HR1.out hok)
        have CI := Lib.hid fun (V : World) (h : RI .i64 V A l) => Is_ok A cp l a b c d V h hok
        rw [hz] at CN CI
        rw [if_neg (by decide)] at CN
        obtain ⟨h0, h1⟩ := hin
        obtain ⟨x0, x1, x2, x3, hx⟩ := list_four (S.pad_length (x := S.atL l n) (by rw [S.atL_length]; exact hok.1))
        have CA := Lib.hid fun (V : World) (h : RI .i64 V A l) => At_yes A cp l n x0 x1 x2 x3 V h hok h0 h1 hx
        have CT := Lib.hid fun (V : World) (h : RI .i64 V A l) => refAt_any A cp l n x0 x1 x2 x3 V h hcap hok h0 hn64 hx
        have hex := fun (W : World) => eql_four 32 arr32 x0 x1 x2 x3 W
        clear hx
        clear hok hz
        generalize S.sumL l [a, b, c, d] = k at *
        generalize S.prod l = p at *
        go_wp2_with fail
        with_reducible refine CS.out.mono ?_
        rintro e w' ⟨rfl, rfl⟩
        go_wp2_with fail
        with_reducible refine CN.out.mono ?_
        rintro e w2 ⟨rfl, hb2⟩
        have HB2 := Lib.hid (below_then HB1.out HB1.out.size hb2)
        have HR2 := Lib.hid (hr'.out.below HB2.out)
        have HK2 := Lib.hid (HK1.out.below hb2 HK1.out.lt)
        clear hb2 c0 c1 c2 c3
        go_wp2_with fail
        with_reducible refine (CA.out w2 HR2.out).mono ?_
        rintro e w3 ⟨rfl, hb3⟩
        have HB3 := Lib.hid (below_then HB2.out HB2.out.size hb3)
        have HK3 := Lib.hid ((HK2.out.below hb3 HK2.out.lt).alloc (.cells (four x0 x1 x2 x3) 33))
        have HX3 := Lib.hid (Blk.new w3 33 (four x0 x1 x2 x3))
        have HBx := Lib.hid (HB3.out.alloc HB3.out.size (.cells (four x0 x1 x2 x3) 33))
        have HRx := Lib.hid (hr'.out.below HBx.out)
        have c0 := HK3.out.cell 0
        have c1 := HK3.out.cell 1
        have c2 := HK3.out.cell 2
        have c3 := HK3.out.cell 3
        clear hb3
        go_wp2_with fail
        with_reducible refine (CI.out _ HRx.out).mono ?_
        rintro e w4 ⟨rfl, hb4⟩
        have HB4 := Lib.hid (below_then HBx.out HBx.out.size hb4)
        have HR4 := Lib.hid (hr'.out.below HB4.out)
        have HK4 := Lib.hid (HK3.out.below hb4 HK3.out.lt)
        have HX4 := Lib.hid (HX3.out.below hb4 HX3.out.lt)
        clear hb4 c0 c1 c2 c3
        have c0 := HK4.out.cell 0
        have c1 := HK4.out.cell 1
        have c2 := HK4.out.cell 2
        have c3 := HK4.out.cell 3
        have x0c := HX4.out.cell 0
        have x1c := HX4.out.cell 1
        have x2c := HX4.out.cell 2
        have x3c := HX4.out.cell 3
        go_wp2_with fail
        have HD := Lib.hid (CT.out w4.drew (show RI .i64 w4.drew A l from HR4.out))
        have HXN := Lib.hid (show Blk w4.drew (w3.heap.size) 33 (four x0 x1 x2 x3) from HX4.out)
        have HBN := Lib.hid (show Below w.heap.size w w4.drew from HB4.out.drew)
        go_region_with (go_at_call 23; with_reducible refine HD.out.mono ?_; rintro e w6 ⟨rfl, hb6⟩; have HB6 := Lib.hid (below_then HBN.out HBN.out.size hb6); have HX6 := Lib.hid (HXN.out.below hb6 HXN.out.lt); clear hb6 x0c x1c x2c x3c; have x0c := HX6.out.cell 0; have x1c := HX6.out.cell 1; have x2c := HX6.out.cell 2; have x3c := HX6.out.cell 3)
        all_goals
          go_wp2_with fail
          go_ret
          exact ⟨rfl, HB6.out⟩
    · cases hz : S.isL l [a, b, c, d] with
      | true =>
        have CS := Lib.hid (refSize_any A cp l w1 HR1.out hm)
        rw [hok.size] at CS
        have CN := Lib.hid (Number_ok A cp l a b c d w1 HR1.out hok)
        have CI := Lib.hid fun (V : World) (h : RI .i64 V A l) => Is_ok A cp l a b c d V h hok
        rw [hz] at CN CI
        rw [if_pos rfl] at CN
        have CR := Lib.hid fun (V : World) (h : RI .i64 V A l) => refNumber_any A cp l a b c d V h hcap hok hz
        have CA := Lib.hid fun (V : World) (h : RI .i64 V A l) => At_no A cp l n V h hm fun h => hin h.2
        have hq : n < 0 ∨ S.prod l ≤ n := by omega
        clear hok hz
        generalize S.sumL l [a, b, c, d] = k at *
        generalize S.prod l = p at *
        by_cases hneg : n < 0
        · go_wp2_with fail
          with_reducible refine CS.out.mono ?_
          rintro e w' ⟨rfl, rfl⟩
          go_wp2_with fail
          with_reducible refine CN.out.mono ?_
          rintro e w2 ⟨rfl, hb2⟩
          have HB2 := Lib.hid (below_then HB1.out HB1.out.size hb2)
          have HR2 := Lib.hid (hr'.out.below HB2.out)
          have HK2 := Lib.hid (HK1.out.below hb2 HK1.out.lt)
          clear hb2 c0 c1 c2 c3
          go_wp2_with fail
          with_reducible refine (CA.out w2 HR2.out).mono ?_
          rintro e w3 ⟨rfl, hb3⟩
          have HB3 := Lib.hid (below_then HB2.out HB2.out.size hb3)
          have HK3 := Lib.hid ((HK2.out.below hb3 HK2.out.lt).alloc (.cells (four 0 0 0 0) 33))
          have HX3 := Lib.hid (Blk.new w3 33 (four 0 0 0 0))
          have HBx := Lib.hid (HB3.out.alloc HB3.out.size (.cells (four 0 0 0 0) 33))
          have HRx := Lib.hid (hr'.out.below HBx.out)
          have c0 := HK3.out.cell 0
          have c1 := HK3.out.cell 1
          have c2 := HK3.out.cell 2
          have c3 := HK3.out.cell 3
          clear hb3
          go_wp2_with fail
          with_reducible refine (CI.out _ HRx.out).mono ?_
          rintro e w4 ⟨rfl, hb4⟩
          have HB4 := Lib.hid (below_then HBx.out HBx.out.size hb4)
          have HR4 := Lib.hid (hr'.out.below HB4.out)
          have HK4 := Lib.hid (HK3.out.below hb4 HK3.out.lt)
          have HX4 := Lib.hid (HX3.out.below hb4 HX3.out.lt)
          clear hb4 c0 c1 c2 c3
          have c0 := HK4.out.cell 0
          have c1 := HK4.out.cell 1
          have c2 := HK4.out.cell 2
          have c3 := HK4.out.cell 3
          have x0c := HX4.out.cell 0
          have x1c := HX4.out.cell 1
          have x2c := HX4.out.cell 2
          have x3c := HX4.out.cell 3
          go_wp2_with fail
          with_reducible refine (CR.out _ HR4.out).mono ?_
          rintro e w5 ⟨rfl, hb5⟩
          have HB5 := Lib.hid (below_then HB4.out HB4.out.size hb5)
          have HR5 := Lib.hid (hr'.out.below HB5.out)
          have HX5 := Lib.hid (HX4.out.below hb5 HX4.out.lt)
          clear hb5 c0 c1 c2 c3 x0c x1c x2c x3c
          have x0c := HX5.out.cell 0
          have x1c := HX5.out.cell 1
          have x2c := HX5.out.cell 2
          have x3c := HX5.out.cell 3
          go_wp2_with fail
          go_ret
          exact ⟨rfl, HB5.out⟩
        · have hge : p ≤ n := by omega
          clear hq
          go_wp2_with fail
          with_reducible refine CS.out.mono ?_
          rintro e w' ⟨rfl, rfl⟩
          go_wp2_with fail
          with_reducible refine CN.out.mono ?_
          rintro e w2 ⟨rfl, hb2⟩
          have HB2 := Lib.hid (below_then HB1.out HB1.out.size hb2)
          have HR2 := Lib.hid (hr'.out.below HB2.out)
          have HK2 := Lib.hid (HK1.out.below hb2 HK1.out.lt)
          clear hb2 c0 c1 c2 c3
          go_wp2_with fail
          with_reducible refine (CA.out w2 HR2.out).mono ?_
          rintro e w3 ⟨rfl, hb3⟩
          have HB3 := Lib.hid (below_then HB2.out HB2.out.size hb3)
          have HK3 := Lib.hid ((HK2.out.below hb3 HK2.out.lt).alloc (.cells (four 0 0 0 0) 33))
          have HX3 := Lib.hid (Blk.new w3 33 (four 0 0 0 0))
          have HBx := Lib.hid (HB3.out.alloc HB3.out.size (.cells (four 0 0 0 0) 33))
          have HRx := Lib.hid (hr'.out.below HBx.out)
          have c0 := HK3.out.cell 0
          have c1 := HK3.out.cell 1
          have c2 := HK3.out.cell 2
          have c3 := HK3.out.cell 3
          clear hb3
          go_wp2_with fail
          with_reducible refine (CI.out _ HRx.out).mono ?_
          rintro e w4 ⟨rfl, hb4⟩
          have HB4 := Lib.hid (below_then HBx.out HBx.out.size hb4)
          have HR4 := Lib.hid (hr'.out.below HB4.out)
          have HK4 := Lib.hid (HK3.out.below hb4 HK3.out.lt)
          have HX4 := Lib.hid (HX3.out.below hb4 HX3.out.lt)
          clear hb4 c0 c1 c2 c3
          have c0 := HK4.out.cell 0
          have c1 := HK4.out.cell 1
          have c2 := HK4.out.cell 2
          have c3 := HK4.out.cell 3
          have x0c := HX4.out.cell 0
          have x1c := HX4.out.cell 1
          have x2c := HX4.out.cell 2
          have x3c := HX4.out.cell 3
          go_wp2_with fail
          with_reducible refine (CR.out _ HR4.out).mono ?_
          rintro e w5 ⟨rfl, hb5⟩
          have HB5 := Lib.hid (below_then HB4.out HB4.out.size hb5)
          have HR5 := Lib.hid (hr'.out.below HB5.out)
          have HX5 := Lib.hid (HX4.out.below hb5 HX4.out.lt)
          clear hb5 c0 c1 c2 c3 x0c x1c x2c x3c
          have x0c := HX5.out.cell 0
          have x1c := HX5.out.cell 1
          have x2c := HX5.out.cell 2
          have x3c := HX5.out.cell 3
          go_wp2_with fail
          go_ret
          exact ⟨rfl, HB5.out⟩
      | false =>
        have CS := Lib.hid (refSize_any A cp l w1 HR1.out hm)
        rw [hok.size] at CS
        have CN := Lib.hid (Number_ok A cp l a b c d w1 HR1.out hok)
        have CI := Lib.hid fun (V : World) (h : RI .i64 V A l) => Is_ok A cp l a b c d V h hok
        rw [hz] at CN CI
        rw [if_neg (by decide)] at CN
        have CA := Lib.hid fun (V : World) (h : RI .i64 V A l) => At_no A cp l n V h hm fun h => hin h.2
        have hq : n < 0 ∨ S.prod l ≤ n := by omega
        clear hok hz
        generalize S.sumL l [a, b, c, d] = k at *
        generalize S.prod l = p at *
        by_cases hneg : n < 0
        · go_wp2_with fail
          with_reducible refine CS.out.mono ?_
          rintro e w' ⟨rfl, rfl⟩
          go_wp2_with fail
          with_reducible refine CN.out.mono ?_
          rintro e w2 ⟨rfl, hb2⟩
          have HB2 := Lib.hid (below_then HB1.out HB1.out.size hb2)
          have HR2 := Lib.hid (hr'.out.below HB2.out)
          have HK2 := Lib.hid (HK1.out.below hb2 HK1.out.lt)
          clear hb2 c0 c1 c2 c3
          go_wp2_with fail
          with_reducible refine (CA.out w2 HR2.out).mono ?_
          rintro e w3 ⟨rfl, hb3⟩
          have HB3 := Lib.hid (below_then HB2.out HB2.out.size hb3)
          have HK3 := Lib.hid ((HK2.out.below hb3 HK2.out.lt).alloc (.cells (four 0 0 0 0) 33))
          have HX3 := Lib.hid (Blk.new w3 33 (four 0 0 0 0))
          have HBx := Lib.hid (HB3.out.alloc HB3.out.size (.cells (four 0 0 0 0) 33))
          have HRx := Lib.hid (hr'.out.below HBx.out)
          have c0 := HK3.out.cell 0
          have c1 := HK3.out.cell 1
          have c2 := HK3.out.cell 2
          have c3 := HK3.out.cell 3
          clear hb3
          go_wp2_with fail
          with_reducible refine (CI.out _ HRx.out).mono ?_
          rintro e w4 ⟨rfl, hb4⟩
          have HB4 := Lib.hid (below_then HBx.out HBx.out.size hb4)
          have HR4 := Lib.hid (hr'.out.below HB4.out)
          have HK4 := Lib.hid (HK3.out.below hb4 HK3.out.lt)
          have HX4 := Lib.hid (HX3.out.below hb4 HX3.out.lt)
          clear hb4 c0 c1 c2 c3
          have c0 := HK4.out.cell 0
          have c1 := HK4.out.cell 1
          have c2 := HK4.out.cell 2
          have c3 := HK4.out.cell 3
          have x0c := HX4.out.cell 0
          have x1c := HX4.out.cell 1
          have x2c := HX4.out.cell 2
          have x3c := HX4.out.cell 3
          go_wp2_with fail
          go_ret
          exact ⟨rfl, HB4.out⟩
        · have hge : p ≤ n := by omega
          clear hq
          go_wp2_with fail
          with_reducible refine CS.out.mono ?_
          rintro e w' ⟨rfl, rfl⟩
          go_wp2_with fail
          with_reducible refine CN.out.mono ?_
          rintro e w2 ⟨rfl, hb2⟩
          have HB2 := Lib.hid (below_then HB1.out HB1.out.size hb2)
          have HR2 := Lib.hid (hr'.out.below HB2.out)
          have HK2 := Lib.hid (HK1.out.below hb2 HK1.out.lt)
          clear hb2 c0 c1 c2 c3
          go_wp2_with fail
          with_reducible refine (CA.out w2 HR2.out).mono ?_
          rintro e w3 ⟨rfl, hb3⟩
          have HB3 := Lib.hid (below_then HB2.out HB2.out.size hb3)
          have HK3 := Lib.hid ((HK2.out.below hb3 HK2.out.lt).alloc (.cells (four 0 0 0 0) 33))
          have HX3 := Lib.hid (Blk.new w3 33 (four 0 0 0 0))
          have HBx := Lib.hid (HB3.out.alloc HB3.out.size (.cells (four 0 0 0 0) 33))
          have HRx := Lib.hid (hr'.out.below HBx.out)
          have c0 := HK3.out.cell 0
          have c1 := HK3.out.cell 1
          have c2 := HK3.out.cell 2
          have c3 := HK3.out.cell 3
          clear hb3
          go_wp2_with fail
          with_reducible refine (CI.out _ HRx.out).mono ?_
          rintro e w4 ⟨rfl, hb4⟩
          have HB4 := Lib.hid (below_then HBx.out HBx.out.size hb4)
          have HR4 := Lib.hid (hr'.out.below HB4.out)
          have HK4 := Lib.hid (HK3.out.below hb4 HK3.out.lt)
          have HX4 := Lib.hid (HX3.out.below hb4 HX3.out.lt)
          clear hb4 c0 c1 c2 c3
          have c0 := HK4.out.cell 0
          have c1 := HK4.out.cell 1
          have c2 := HK4.out.cell 2
          have c3 := HK4.out.cell 3
          have x0c := HX4.out.cell 0
          have x1c := HX4.out.cell 1
          have x2c := HX4.out.cell 2
          have x3c := HX4.out.cell 3
          go_wp2_with fail
          go_ret
          exact ⟨rfl, HB4.out⟩
  all_goals
    have CS := Lib.hid (refSize_any A cp l w1 HR1.out hm)
    rw [h] at CS
    have CN := Lib.hid (Number_bad A cp l a b c d w1 HR1.out hm ho)
    have CA := Lib.hid fun (V : World) (h : RI .i64 V A l) => At_no A cp l n V h hm fun h => ho h.1
    clear h ho
    go_wp2_with fail
    with_reducible refine CS.out.mono ?_
    rintro e w' ⟨rfl, rfl⟩
    go_wp2_with fail
    with_reducible refine CN.out.mono ?_
    rintro e w2 ⟨rfl, hb2⟩
    have HB2 := Lib.hid (below_then HB1.out HB1.out.size hb2)
    have HR2 := Lib.hid (hr'.out.below HB2.out)
    clear hb2 c0 c1 c2 c3
    go_wp2_with fail
    with_reducible refine (CA.out w2 HR2.out).mono ?_
    rintro e w3 ⟨rfl, hb3⟩
    have HB3 := Lib.hid (below_then HB2.out HB2.out.size hb3)
    clear hb3
    go_wp2_with fail
    go_ret
    exact ⟨rfl, HB3.out.alloc HB3.out.size _⟩
end Go.Proofs.Ytdaajncfhcpecaa
