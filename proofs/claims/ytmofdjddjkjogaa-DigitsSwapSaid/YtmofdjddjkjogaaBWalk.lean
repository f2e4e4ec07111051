/- The walks of chapter 9's Bits: ReverseBytes64, Reverse64, Bits, the reference's Bits; alive. No condition. -/
import Derived.Test.YtmofdjddjkjogaaDWalk2
import Derived.Test.YtmofdjddjkjogaaDBits
namespace Go.Proofs.Ytmofdjddjkjogaa
open Go.RowKit
theorem swp8 (x : Nat) (hx : x < 18446744073709551616) : bits .or .u64 (bits .and .u64 ((x : Int) / 256) 71777214294589695) (IntKind.u64.wrap (bits .and .u64 (x : Int) 71777214294589695 * 256)) = ((D.swp 8 71777214294589695 x : Nat) : Int) :=
  D.go_swp 8 71777214294589695 x hx (by decide) 256 rfl
theorem swp16 (x : Nat) (hx : x < 18446744073709551616) : bits .or .u64 (bits .and .u64 ((x : Int) / 65536) 281470681808895) (IntKind.u64.wrap (bits .and .u64 (x : Int) 281470681808895 * 65536)) = ((D.swp 16 281470681808895 x : Nat) : Int) :=
  D.go_swp 16 281470681808895 x hx (by decide) 65536 rfl
theorem swp1 (x : Nat) (hx : x < 18446744073709551616) : bits .or .u64 (bits .and .u64 ((x : Int) / 2) 6148914691236517205) (IntKind.u64.wrap (bits .and .u64 (x : Int) 6148914691236517205 * 2)) = ((D.swp 1 6148914691236517205 x : Nat) : Int) :=
  D.go_swp 1 6148914691236517205 x hx (by decide) 2 rfl
theorem swp2 (x : Nat) (hx : x < 18446744073709551616) : bits .or .u64 (bits .and .u64 ((x : Int) / 4) 3689348814741910323) (IntKind.u64.wrap (bits .and .u64 (x : Int) 3689348814741910323 * 4)) = ((D.swp 2 3689348814741910323 x : Nat) : Int) :=
  D.go_swp 2 3689348814741910323 x hx (by decide) 4 rfl
theorem swp4 (x : Nat) (hx : x < 18446744073709551616) : bits .or .u64 (bits .and .u64 ((x : Int) / 16) 1085102592571150095) (IntKind.u64.wrap (bits .and .u64 (x : Int) 1085102592571150095 * 16)) = ((D.swp 4 1085102592571150095 x : Nat) : Int) :=
  D.go_swp 4 1085102592571150095 x hx (by decide) 16 rfl
set_option maxHeartbeats 400000 in
theorem revBytes_any (x : Nat) (w : World) (h1 : x < 18446744073709551616) :
    Calls Try.prog 25 #[.int .u64 x] w fun e w' => e = .returned (.int .u64 (D.revBytes x : Nat)) ∧ w = w' := by
  have H := Lib.hid h1
  go_enter Try.func25, Try.ntmps25
  go_wp2
  go_ret
  refine ⟨ret_int ?_, rfl⟩
  rw [swp8 x H.out, swp16 _ (D.swp_lt (by decide)), D.go_swpLast _ (D.swp_lt (by decide))]
  rfl
set_option maxHeartbeats 400000 in
theorem rev64_any (x : Nat) (w : World) (h1 : x < 18446744073709551616) :
    Calls Try.prog 22 #[.int .u64 x] w fun e w' => e = .returned (.int .u64 (D.rev64 x : Nat)) ∧ w = w' := by
  have H := Lib.hid h1
  go_enter Try.func22, Try.ntmps22
  go_wp2_with fail
  rw [swp1 x H.out, swp2 _ (D.swp_lt (by decide)), swp4 _ (D.swp_lt (by decide))]
  refine (revBytes_any _ _ (D.swp_lt (by decide))).mono ?_
  rintro e w' ⟨rfl, rfl⟩
  go_wp2_with fail
  go_ret
  exact ⟨rfl, rfl⟩
/-- What Bits answers. -/
noncomputable def bitsD (i k : Int) : Int := if k < 1 ∨ 62 < k then 0 else (D.R k.toNat (i % 18446744073709551616).toNat : Nat)
theorem bitsD_lt (i k : Int) : 0 ≤ bitsD i k ∧ bitsD i k < 4611686018427387904 := by
  unfold bitsD
  by_cases h : k < 1 ∨ 62 < k
  · rw [if_pos h]; omega
  · rw [if_neg h]
    have h1 := D.R_lt k.toNat (i % 18446744073709551616).toNat
    have h2 : 2 ^ k.toNat ≤ 2 ^ 62 := Nat.pow_le_pow_right (by decide) (by omega)
    generalize D.R k.toNat (i % 18446744073709551616).toNat = r at *
    have h3 : (2 : Nat) ^ 62 = 4611686018427387904 := by decide
    omega
theorem bits_div (i k : Int) (h0 : 1 ≤ k) (h1 : k ≤ 62) : wrap64 (((D.rev64 (i % 18446744073709551616).toNat : Nat) : Int) / 2 ^ (64 - k).toNat) = bitsD i k := by
  have hb := bitsD_lt i k
  have h64 : (64 - k).toNat = 64 - k.toNat := by omega
  have e : ((D.rev64 (i % 18446744073709551616).toNat : Nat) : Int) / 2 ^ (64 - k).toNat = ((D.rev64 (i % 18446744073709551616).toNat / 2 ^ (64 - k.toNat) : Nat) : Int) := by
    rw [h64]; simp
  rw [e, D.rev64_R (by omega) (by omega)]
  have e2 : ((D.R k.toNat (i % 18446744073709551616).toNat : Nat) : Int) = bitsD i k := by unfold bitsD; rw [if_neg (by omega)]
  rw [e2]
  unfold wrap64
  omega
set_option maxHeartbeats 400000 in
theorem bits_any (i k : Int) (w : World) : Calls Try.prog 12 #[.int .i64 i, .int .i64 k] w fun e w' => e = .returned (.int .i64 (bitsD i k)) ∧ w = w' := by
  by_cases hk : k < 1
  · have e := Lib.hid (show bitsD i k = 0 by unfold bitsD; rw [if_pos (.inl hk)])
    go_enter Try.func12, Try.ntmps12
    go_wp2
    go_ret
    rw [e.out]
    exact ⟨rfl, rfl⟩
  · by_cases hk2 : 62 < k
    · have e := Lib.hid (show bitsD i k = 0 by unfold bitsD; rw [if_pos (.inr hk2)])
      go_enter Try.func12, Try.ntmps12
      go_wp2
      go_ret
      rw [e.out]
      exact ⟨rfl, rfl⟩
    · have h0 : 1 ≤ k := by omega
      have h1 : k ≤ 62 := by omega
      have HB := Lib.hid (bits_div i k h0 h1)
      have HU := Lib.hid (show IntKind.u64.wrap i = ((i % 18446744073709551616).toNat : Nat) by rw [IntKind.wrap_u64]; omega)
      have hx : (i % 18446744073709551616).toNat < 18446744073709551616 := by omega
      have HX := Lib.hid hx
      clear hx hk hk2
      generalize (i % 18446744073709551616).toNat = x at *
      go_enter Try.func12, Try.ntmps12
      go_wp2_with fail
      rw [HU.out]
      refine (rev64_any x _ HX.out).mono ?_
      rintro e w' ⟨rfl, rfl⟩
      go_wp2_with fail
      go_ret
      exact ⟨ret_int HB.out, rfl⟩

set_option maxHeartbeats 400000 in
theorem refBits_any (i k : Int) (w : World) : Calls Try.prog 13 #[.int .i64 i, .int .i64 k] w fun e w' => e = .returned (.int .i64 (bitsD i k)) ∧ w = w' := by
  by_cases hk : k < 1
  · have e := Lib.hid (show bitsD i k = 0 by unfold bitsD; rw [if_pos (.inl hk)])
    go_enter Try.func13, Try.ntmps13
    go_wp2
    go_ret
    rw [e.out]
    exact ⟨rfl, rfl⟩
  · by_cases hk2 : 62 < k
    · have e := Lib.hid (show bitsD i k = 0 by unfold bitsD; rw [if_pos (.inr hk2)])
      go_enter Try.func13, Try.ntmps13
      go_wp2
      go_ret
      rw [e.out]
      exact ⟨rfl, rfl⟩
    · have h0 : 1 ≤ k := by omega
      have h1 : k ≤ 62 := by omega
      have HB := Lib.hid (show ((D.revL k.toNat 0 (i % 18446744073709551616).toNat : Nat) : Int) = bitsD i k by
        rw [D.revL_R]; unfold bitsD; rw [if_neg (by omega)]; simp)
      have HU := Lib.hid (show IntKind.u64.wrap i = ((i % 18446744073709551616).toNat : Nat) by rw [IntKind.wrap_u64]; omega)
      have hx : (i % 18446744073709551616).toNat < 18446744073709551616 := by omega
      have HX := Lib.hid hx
      clear hx hk hk2
      generalize (i % 18446744073709551616).toNat = x at *
      obtain ⟨n, rfl⟩ : ∃ n : Nat, k = n := ⟨k.toNat, by omega⟩
      rw [Int.toNat_natCast] at HB
      go_enter Try.func13, Try.ntmps13
      go_wp2
      go_loop [5, 6, 7] (fun a b c => ∃ (j o y : Nat), j ≤ n ∧ c = .int .i64 j ∧ a = .int .u64 y ∧ b = .int .i64 o ∧ y < 18446744073709551616 ∧ Hid (o < 2 ^ j) ∧ Hid (D.revL (n - j) o y = D.revL n 0 x)) (fun _ _ c => n - (intOf c).toNat)
      case atStart => exact ⟨0, 0, x, by omega, rfl, by rw [HU.out], rfl, HX.out, Lib.hid (by decide), Lib.hid rfl⟩
      case round =>
        obtain ⟨j, o, y, hj, rfl, rfl, rfl, hy, HO, H⟩ := hrel
        by_cases hlt : j < n
        · have ho : o ≤ 2305843009213693951 := by
            have h3 := HO.out
            have h4 : 2 ^ j ≤ 2 ^ 61 := Nat.pow_le_pow_right (by decide) (by omega)
            omega
          have HS := Lib.hid (show D.revL (n - (j + 1)) (2 * o + y % 2) (y / 2) = D.revL n 0 x by
            rw [← H.out, show n - j = (n - (j + 1)) + 1 by omega]; rfl)
          have HO2 := Lib.hid (show 2 * o + y % 2 < 2 ^ (j + 1) by have := HO.out; rw [Nat.pow_succ]; omega)
          by_cases hp : y % 2 = 1
          · have hpb : ((y : Int) % 2 == 1) = true := beq_iff_eq.2 (by omega)
            have HP := Lib.hid hp
            clear hp
            go_wp2
            go_round
            case rel => exact ⟨j + 1, 2 * o + y % 2, y / 2, by omega, by go_num, by go_num, by rw [HP.out]; go_num, by omega, HO2, HS⟩
            case measure => simp [intOf]; omega
          · have hpb : ((y : Int) % 2 == 1) = false := beq_eq_false_iff_ne.2 (by omega)
            have HP := Lib.hid (show y % 2 = 0 by omega)
            clear hp
            go_wp2
            go_round
            case rel => exact ⟨j + 1, 2 * o + y % 2, y / 2, by omega, by go_num, by go_num, by rw [HP.out]; go_num, by omega, HO2, HS⟩
            case measure => simp [intOf]; omega
        · obtain rfl : j = n := by omega
          have HE := Lib.hid (show ((o : Nat) : Int) = bitsD i j by rw [← HB.out, ← H.out, Nat.sub_self]; rfl)
          go_wp2
          go_ret
          exact ⟨ret_int HE.out, rfl⟩

/-- The two numbers of a literal slice, as they are read. -/
theorem RI.two {w : World} {e : TypeId} {a b : Int} {g : Nat} (h : w.heap[g]? = some (.cells #[.int .i64 a, .int .i64 b] e (0, 0))) : RI .i64 w (some ⟨g, 0, none⟩) [a, b] := by
  intro i hi
  refine ⟨_, rfl, ?_⟩
  match i, hi with
  | 0, _ => exact cell_of_row _ _ 0 _ e (0, 0) h
  | 1, _ => exact cell_of_row _ _ 1 _ e (0, 0) h
theorem Ok23 : D.Ok [2, 3] := ⟨by decide, by decide, by decide⟩
theorem turn23 (A : Option Addr) (W : World) (h : RI .i64 W A [2, 3]) : Calls Try.prog 10 #[.slice A 2 2, .int .i64 1] W fun e w' => e = .returned (.tuple #[.int .i64 3, .bool true]) ∧ W = w' := by
  have := Turn_yes A 2 [2, 3] 1 W h Ok23 (by decide) (by decide)
  rw [show D.turnD [2, 3] 1 = 3 by decide] at this
  exact this
theorem turn32 (A : Option Addr) (W : World) (h : RI .i64 W A [2, 3]) : Calls Try.prog 10 #[.slice A 2 2, .int .i64 2] W fun e w' => e = .returned (.tuple #[.int .i64 1, .bool true]) ∧ W = w' := by
  have := Turn_yes A 2 [2, 3] 2 W h Ok23 (by decide) (by decide)
  rw [show D.turnD [2, 3] 2 = 1 by decide] at this
  exact this
set_option maxHeartbeats 400000 in
theorem alive_any (w : World) : Calls Try.prog 8 #[] w fun e w' => e = .returned (.bool true) ∧ Below w.heap.size w w' := by
  have hB : bitsD 1 3 = 4 := by unfold bitsD; decide +kernel
  have B := Lib.hid fun (W : World) => bits_any 1 3 W
  rw [hB] at B
  clear hB
  go_enter Try.func8, Try.ntmps8
  go_wp2_with fail
  refine (turn23 _ _ (RI.two (heap_alloc_new w _))).mono ?_
  rintro e w' ⟨rfl, rfl⟩
  go_wp2_with fail
  refine (turn32 _ _ (RI.two (e := 3) (by have h := heap_alloc_new (w.alloc (.cells #[.int .i64 2, .int .i64 3] 3)) (.cells #[.int .i64 2, .int .i64 3] 3); rw [World.size_alloc] at h; exact h))).mono ?_
  rintro e w' ⟨rfl, rfl⟩
  go_wp2_with fail
  refine (B.out _).mono ?_
  rintro e w' ⟨rfl, rfl⟩
  go_wp2_with fail
  go_ret
  exact ⟨rfl, ((Below.refl _ _).alloc (Nat.le_refl _) _).alloc (by simp) _⟩
end Go.Proofs.Ytmofdjddjkjogaa
