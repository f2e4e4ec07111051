/- The walk of the law DigitsBits, out of contracts. No condition. -/
import Derived.Test.YtmofdjddjkjogaaBackWalk
namespace Go.Proofs.Ytmofdjddjkjogaa
open Go.RowKit
theorem bitsD_nat (i : Int) {k : Int} (h0 : 1 ≤ k) (h1 : k ≤ 62) : bitsD i k = (D.R k.toNat (i % 18446744073709551616).toNat : Nat) := by
  unfold bitsD; rw [if_neg (by omega)]
theorem pow_small {n : Nat} (h : n ≤ 62) : (2 : Nat) ^ n ≤ 4611686018427387904 := by
  have h3 : (2 : Nat) ^ 62 = 4611686018427387904 := by decide
  rw [← h3]; exact Nat.pow_le_pow_right (by decide) h
theorem wrap_pow {k : Int} (h0 : 1 ≤ k) (h1 : k ≤ 62) : wrap64 ((2 : Int) ^ k.toNat) = ((2 ^ k.toNat : Nat) : Int) := by
  have h := pow_small (n := k.toNat) (by omega)
  have e : (2 : Int) ^ k.toNat = ((2 ^ k.toNat : Nat) : Int) := by simp
  rw [e]
  generalize (2 : Nat) ^ k.toNat = p at *
  unfold wrap64
  omega
theorem bits_twice (i k : Int) (h0 : 1 ≤ k) (h1 : k ≤ 62) : bitsD (bitsD i k) k = bits .and .i64 i (wrap64 (wrap64 (2 ^ k.toNat) - 1)) := by
  have hx := bitsD_lt i k
  have e1 : ((bitsD i k) % 18446744073709551616).toNat = D.R k.toNat (i % 18446744073709551616).toNat := by
    rw [Int.emod_eq_of_lt hx.1 (by omega), bitsD_nat i h0 h1, Int.toNat_natCast]
  rw [bitsD_nat _ h0 h1, e1, D.R_R, wrap_pow h0 h1]
  have hp := pow_small (n := k.toNat) (by omega)
  have hp1 : 1 ≤ 2 ^ k.toNat := Nat.one_le_two_pow
  have e2 : wrap64 (((2 ^ k.toNat : Nat) : Int) - 1) = ((2 ^ k.toNat - 1 : Nat) : Int) := by
    generalize (2 : Nat) ^ k.toNat = p at *
    unfold wrap64
    omega
  rw [e2]
  show _ = IntKind.i64.wrap ((BitVec.ofInt 64 i &&& BitVec.ofInt 64 ((2 ^ k.toNat - 1 : Nat) : Int)).toNat : Int)
  have e3 : (BitVec.ofInt 64 i).toNat = (i % 18446744073709551616).toNat := by rw [BitVec.toNat_ofInt, show ((2 ^ 64 : Nat) : Int) = 18446744073709551616 by decide]
  rw [BitVec.toNat_and, e3, ofInt_u64 _ (by omega), Nat.and_two_pow_sub_one_eq_mod, IntKind.wrap_i64]
  have hlt : (i % 18446744073709551616).toNat % 2 ^ k.toNat < 2 ^ k.toNat := Nat.mod_lt _ hp1
  generalize (i % 18446744073709551616).toNat % 2 ^ k.toNat = m at *
  generalize (2 : Nat) ^ k.toNat = p at *
  omega
theorem turn_two {i k : Int} (h0 : 1 ≤ k) (h1 : k ≤ 12) (hi : 0 ≤ i) (hi2 : i < ((2 ^ k.toNat : Nat) : Int)) : D.turnD (List.replicate k.toNat 2) i = bitsD i k := by
  have hp := pow_small (n := k.toNat) (by omega)
  rw [bitsD_nat i h0 (by omega), Int.emod_eq_of_lt hi (by omega)]
  obtain ⟨x, rfl⟩ : ∃ x : Nat, i = x := ⟨i.toNat, by omega⟩
  have h := D.turnL_two k.toNat 0 x
  rw [D.revL_R, Nat.mul_zero, Nat.zero_add] at h
  rw [Int.toNat_natCast]
  exact h
set_option maxHeartbeats 400000 in
theorem bits_law (i k : Int) (w : World) (_hi : -9223372036854775808 ≤ i ∧ i ≤ 9223372036854775807) :
    Calls Try.prog 4 #[.int .i64 i, .int .i64 k] w fun e w' => e = .returned (.bool true) ∧ Below w.heap.size w w' := by
  by_cases hk : k < 1
  · go_enter Try.func4, Try.ntmps4
    go_wp2_with fail
    refine (alive_any w).mono ?_
    rintro e w1 ⟨rfl, hb1⟩
    have HB := Lib.hid hb1
    clear hb1
    go_wp2_with fail
    refine (bits_any i k _).mono ?_
    rintro e w' ⟨rfl, rfl⟩
    go_wp2_with fail
    refine (refBits_any i k _).mono ?_
    rintro e w' ⟨rfl, rfl⟩
    go_wp2_with fail
    go_ret
    exact ⟨rfl, HB.out⟩
  · by_cases hk2 : 62 < k
    · go_enter Try.func4, Try.ntmps4
      go_wp2_with fail
      refine (alive_any w).mono ?_
      rintro e w1 ⟨rfl, hb1⟩
      have HB := Lib.hid hb1
      clear hb1
      go_wp2_with fail
      refine (bits_any i k _).mono ?_
      rintro e w' ⟨rfl, rfl⟩
      go_wp2_with fail
      refine (refBits_any i k _).mono ?_
      rintro e w' ⟨rfl, rfl⟩
      go_wp2_with fail
      go_ret
      exact ⟨rfl, HB.out⟩
    · have h0 : 1 ≤ k := by omega
      have h1 : k ≤ 62 := by omega
      have hx := bitsD_lt i k
      have B1 := Lib.hid fun (W : World) => bits_any i k W
      have B2 := Lib.hid fun (W : World) => refBits_any i k W
      have B3 := Lib.hid fun (W : World) => bits_any (bitsD i k) k W
      have hne : (bitsD (bitsD i k) k != bits BinOp.and IntKind.i64 i (wrap64 (wrap64 (2 ^ k.toNat) - 1))) = false := by rw [bits_twice i k h0 h1]; simp
      have HW := Lib.hid (wrap_pow h0 h1)
      have HT := Lib.hid fun (h12 : k ≤ 12) (hi0 : 0 ≤ i) (hi2 : i < ((2 ^ k.toNat : Nat) : Int)) => turn_two h0 h12 hi0 hi2
      generalize bitsD (bitsD i k) k = y at *
      generalize bitsD i k = x at *
      clear hk hk2
      by_cases h12 : 12 < k
      · go_enter Try.func4, Try.ntmps4
        go_wp2_with fail
        refine (alive_any w).mono ?_
        rintro e w1 ⟨rfl, hb1⟩
        have HB := Lib.hid hb1
        clear hb1
        go_wp2_with fail
        refine (B1.out _).mono ?_
        rintro e w' ⟨rfl, rfl⟩
        go_wp2_with fail
        refine (B2.out _).mono ?_
        rintro e w' ⟨rfl, rfl⟩
        go_wp2_with fail
        refine (B3.out _).mono ?_
        rintro e w' ⟨rfl, rfl⟩
        go_wp2_with fail
        go_ret
        exact ⟨rfl, HB.out⟩
      by_cases hi0 : i < 0
      · go_enter Try.func4, Try.ntmps4
        go_wp2_with fail
        refine (alive_any w).mono ?_
        rintro e w1 ⟨rfl, hb1⟩
        have HB := Lib.hid hb1
        clear hb1
        go_wp2_with fail
        refine (B1.out _).mono ?_
        rintro e w' ⟨rfl, rfl⟩
        go_wp2_with fail
        refine (B2.out _).mono ?_
        rintro e w' ⟨rfl, rfl⟩
        go_wp2_with fail
        refine (B3.out _).mono ?_
        rintro e w' ⟨rfl, rfl⟩
        go_wp2_with fail
        go_ret
        exact ⟨rfl, HB.out⟩
      by_cases hi2 : wrap64 (2 ^ k.toNat) ≤ i
      · go_enter Try.func4, Try.ntmps4
        go_wp2_with fail
        refine (alive_any w).mono ?_
        rintro e w1 ⟨rfl, hb1⟩
        have HB := Lib.hid hb1
        clear hb1
        go_wp2_with fail
        refine (B1.out _).mono ?_
        rintro e w' ⟨rfl, rfl⟩
        go_wp2_with fail
        refine (B2.out _).mono ?_
        rintro e w' ⟨rfl, rfl⟩
        go_wp2_with fail
        refine (B3.out _).mono ?_
        rintro e w' ⟨rfl, rfl⟩
        go_wp2_with fail
        go_ret
        exact ⟨rfl, HB.out⟩
      have hi3 : i < wrap64 (2 ^ k.toNat) := by omega
      have H3 := Lib.hid hi3
      clear hi2
      go_enter Try.func4, Try.ntmps4
      go_wp2_with fail
      refine (alive_any w).mono ?_
      rintro e w1 ⟨rfl, hb1⟩
      have HB := Lib.hid hb1
      clear hb1
      go_wp2_with fail
      refine (B1.out _).mono ?_
      rintro e w' ⟨rfl, rfl⟩
      go_wp2_with fail
      refine (B2.out _).mono ?_
      rintro e w' ⟨rfl, rfl⟩
      go_wp2_with fail
      refine (B3.out _).mono ?_
      rintro e w' ⟨rfl, rfl⟩
      go_wp2_with fail
      have hT := HT.out (by omega) (by omega) (by have := H3.out; rw [HW.out] at this; exact this)
      have hI := H3.out
      rw [HW.out] at hI
      have HTT := Lib.hid hT
      have HI := Lib.hid hI
      clear hI hT hne hi3
      go_loopw [6, 7] (fun v j wr => ∃ m : Nat, (m : Int) ≤ k ∧ j = .int .i64 m ∧ Hid (OI .i64 3 wr w.heap.size v (List.replicate m 2)) ∧ Hid (Below w.heap.size w wr)) (fun _ j _ => (k - intOf j).toNat)
      case atStart => exact ⟨0, by omega, rfl, Lib.hid (OI.nil _ _ _ _), HB⟩
      case round =>
        obtain ⟨m, hm, rfl, HO, HB2⟩ := hrel
        by_cases hlt : (m : Int) < k
        · have HL := Lib.hid (show (List.replicate m (2 : Int)).length + 1 ≤ 17592186044416 by simp; omega)
          have hBs := HB2.out.size
          go_wp2_with (at_builtin; refine wpList_append1 (W := wr) rfl (.tmp 54) (.tmp 55) 22 rfl w.heap.size 3 .i64 8 Try.underlying22 infoInt (by decide) u6 (List.replicate m 2) 2 rfl rfl HO.out HL.out hBs ?_; intro v1 w2 hown hb1; have HO1 := Lib.hid hown; have HB1 := Lib.hid hb1; clear hown hb1)
          go_roundw
          case rel => exact ⟨m + 1, by omega, by go_num, Lib.hid (by rw [List.replicate_succ']; exact HO1.out), Lib.hid (HB2.out.trans HB1.out)⟩
          case measure => simp [intOf]; omega
        · obtain rfl : k = m := by omega
          rw [Int.toNat_natCast] at HTT HI
          have ho := HO.out
          obtain ⟨A2, c2, hv, hr2⟩ := ho.form
          rw [List.length_replicate] at hv
          have HT2 := Turn_yes A2 c2 (List.replicate m 2) i wr hr2 (D.Ok_two (by omega)) (by omega) (by rw [D.prod_two]; exact HI.out)
          rw [HTT.out, List.length_replicate] at HT2
          have HT3 := Lib.hid HT2
          clear ho hr2 HT2
          subst hv
          go_wp2_with fail
          refine HT3.out.mono ?_
          rintro e w' ⟨rfl, rfl⟩
          go_wp2_with fail
          go_ret
          exact ⟨rfl, HB2.out⟩
end Go.Proofs.Ytmofdjddjkjogaa
