/- Turned from the seat of chapter 9 (DBits, BWalk). Plain mathematics of chapter 9's Bits: math/bits.Reverse64 as shifts and masks turns the 64 bits about; the lowest bits turned about, one by one. No program in it. No condition. -/
import Derived.Laws.BitsAllLaws
import Derived.RowKit
import Derived.Test.YtpkpadepccneeaaGreatDoorL29
import Derived.Test.YtpkpadepccneeaaGreatDoorL33
import Derived.Test.YtpkpadepccneeaaGreatDoorL27
import Derived.Deep.RegionHeld3
namespace Go.Proofs.YtpkpadepccneeaaGreatDoor.D
open Go.RowKit

/-- One step: neighbours of s bits change places. -/
def swp (s m x : Nat) : Nat := ((x / 2 ^ s) &&& m) ||| (((x &&& m) * 2 ^ s) % 2 ^ 64)
def swpLast (x : Nat) : Nat := (x / 2 ^ 32) ||| ((x * 2 ^ 32) % 2 ^ 64)
/-- What makes a mask the right one. -/
def maskOk (s m : Nat) : Prop := ∀ i, i < 64 → (i ^^^ s) < 64 ∧ (if m.testBit i then (i ^^^ s = s + i ∧ (s ≤ i → m.testBit (i - s) = false)) else (s ≤ i ∧ m.testBit (i - s) = true ∧ i ^^^ s = i - s))
theorem swp_lt {s m x : Nat} (hm : m < 2 ^ 64) : swp s m x < 2 ^ 64 := by
  unfold swp
  exact Nat.or_lt_two_pow (Nat.and_lt_two_pow _ hm) (Nat.mod_lt _ (by decide))
theorem swpLast_lt {x : Nat} (hx : x < 2 ^ 64) : swpLast x < 2 ^ 64 := by
  unfold swpLast
  exact Nat.or_lt_two_pow (Nat.lt_of_le_of_lt (Nat.div_le_self _ _) hx) (Nat.mod_lt _ (by decide))
theorem swp_bit {s m x i : Nat} (hm : maskOk s m) (hi : i < 64) : (swp s m x).testBit i = x.testBit (i ^^^ s) := by
  unfold swp
  have h := (hm i hi).2
  rw [Nat.testBit_or, Nat.testBit_and, Nat.testBit_mod_two_pow, Nat.testBit_mul_two_pow, Nat.testBit_div_two_pow, Nat.testBit_and]
  cases hb : m.testBit i with
  | true =>
    rw [hb] at h
    obtain ⟨h1, h2⟩ := h
    rw [h1]
    by_cases hs : s ≤ i
    · simp [hi, hs, h2 hs, Nat.add_comm]
    · simp [hi, hs, Nat.add_comm]
  | false =>
    rw [hb] at h
    obtain ⟨h1, h2, h3⟩ := h
    rw [h3]
    simp [hi, h1, h2]
theorem bit_high {x i : Nat} (hx : x < 2 ^ 64) (hi : 64 ≤ i) : x.testBit i = false := Nat.testBit_lt_two_pow (Nat.lt_of_lt_of_le hx (Nat.pow_le_pow_right (by decide) hi))
theorem swpLast_bit {x i : Nat} (hx : x < 2 ^ 64) (hi : i < 64) : (swpLast x).testBit i = x.testBit (i ^^^ 32) := by
  unfold swpLast
  have hc : ∀ j, j < 64 → (if j < 32 then j ^^^ 32 = 32 + j else j ^^^ 32 = j - 32) := by decide +kernel
  have h := hc i hi
  rw [Nat.testBit_or, Nat.testBit_mod_two_pow, Nat.testBit_mul_two_pow, Nat.testBit_div_two_pow]
  by_cases h32 : i < 32
  · rw [if_pos h32] at h
    rw [h]
    simp [hi, show ¬ 32 ≤ i by omega, Nat.add_comm]
  · rw [if_neg h32] at h
    rw [h, bit_high hx (show 64 ≤ i + 32 by omega)]
    simp [hi, show 32 ≤ i by omega]
theorem mask1 : maskOk 1 6148914691236517205 := by unfold maskOk; decide +kernel
theorem mask2 : maskOk 2 3689348814741910323 := by unfold maskOk; decide +kernel
theorem mask4 : maskOk 4 1085102592571150095 := by unfold maskOk; decide +kernel
theorem mask8 : maskOk 8 71777214294589695 := by unfold maskOk; decide +kernel
theorem mask16 : maskOk 16 281470681808895 := by unfold maskOk; decide +kernel
def revBytes (x : Nat) : Nat := swpLast (swp 16 281470681808895 (swp 8 71777214294589695 x))
def rev64 (x : Nat) : Nat := revBytes (swp 4 1085102592571150095 (swp 2 3689348814741910323 (swp 1 6148914691236517205 x)))
theorem revBytes_lt (x : Nat) : revBytes x < 2 ^ 64 := swpLast_lt (swp_lt (by decide))
theorem rev64_lt (x : Nat) : rev64 x < 2 ^ 64 := revBytes_lt _
theorem rev64_bit {x i : Nat} (hi : i < 64) : (rev64 x).testBit i = x.testBit (63 - i) := by
  have hc : ∀ j, j < 64 → j ^^^ 32 < 64 ∧ j ^^^ 32 ^^^ 16 < 64 ∧ j ^^^ 32 ^^^ 16 ^^^ 8 < 64 ∧ j ^^^ 32 ^^^ 16 ^^^ 8 ^^^ 4 < 64 ∧ j ^^^ 32 ^^^ 16 ^^^ 8 ^^^ 4 ^^^ 2 < 64 ∧ j ^^^ 32 ^^^ 16 ^^^ 8 ^^^ 4 ^^^ 2 ^^^ 1 = 63 - j := by decide +kernel
  obtain ⟨h1, h2, h3, h4, h5, h6⟩ := hc i hi
  unfold rev64 revBytes
  rw [swpLast_bit (swp_lt (by decide)) hi, swp_bit mask16 h1, swp_bit mask8 h2, swp_bit mask4 h3, swp_bit mask2 h4, swp_bit mask1 h5, h6]

/-- The lowest bits, so many, turned about. -/
def R : Nat → Nat → Nat
  | 0, _ => 0
  | n + 1, x => 2 ^ n * (x % 2) + R n (x / 2)
theorem R_lt : ∀ (n x : Nat), R n x < 2 ^ n
  | 0, _ => by simp [R]
  | n + 1, x => by
    have ih := R_lt n (x / 2)
    have h2 : x % 2 ≤ 1 := by omega
    have h3 : 2 ^ n * (x % 2) ≤ 2 ^ n * 1 := Nat.mul_le_mul_left _ h2
    have h4 : 2 ^ (n + 1) = 2 ^ n + 2 ^ n := by rw [Nat.pow_succ]; omega
    simp only [R]
    omega
theorem R_bit : ∀ (n x j : Nat), (R n x).testBit j = (decide (j < n) && x.testBit (n - 1 - j))
  | 0, x, j => by simp [R]
  | n + 1, x, j => by
    simp only [R]
    rw [Nat.testBit_two_pow_mul_add _ (R_lt n (x / 2))]
    by_cases h : j < n
    · rw [if_pos h, R_bit n (x / 2) j, Nat.testBit_div_two]
      simp [h, show j < n + 1 by omega]
      congr 1
      omega
    · rw [if_neg h]
      by_cases h2 : j = n
      · subst h2
        have e : j - j = 0 := by omega
        rw [e]
        simp [Nat.testBit_zero]
      · have e : decide (j < n + 1) = false := by simp; omega
        rw [e, Bool.false_and]
        exact Nat.testBit_lt_two_pow (Nat.lt_of_lt_of_le (Nat.mod_lt _ (by decide)) (Nat.le_trans (show 2 ≤ 2 ^ 1 by decide) (Nat.pow_le_pow_right (by decide) (by omega))))
theorem rev64_R {k x : Nat} (h1 : 1 ≤ k) (h2 : k ≤ 64) : rev64 x / 2 ^ (64 - k) = R k x := by
  apply Nat.eq_of_testBit_eq
  intro j
  rw [Nat.testBit_div_two_pow, R_bit]
  by_cases h : j < k
  · rw [rev64_bit (by omega)]
    simp [h]
    congr 1
    omega
  · rw [bit_high (rev64_lt x) (by omega)]
    simp [h]
theorem R_R (k x : Nat) : R k (R k x) = x % 2 ^ k := by
  apply Nat.eq_of_testBit_eq
  intro j
  rw [R_bit, R_bit, Nat.testBit_mod_two_pow]
  by_cases h : j < k
  · simp only [h, decide_true, Bool.true_and]
    have e : k - 1 - j < k := by omega
    rw [show k - 1 - (k - 1 - j) = j by omega]
    simp [e]
  · simp [h]
/-! ### as Go reckons them -/
theorem go_swp (s m x : Nat) (hx : x < 18446744073709551616) (hm : m < 18446744073709551616) (p : Nat) (hp : p = 2 ^ s) :
    bits .or .u64 (bits .and .u64 ((x : Int) / (p : Int)) (m : Int)) (IntKind.u64.wrap (bits .and .u64 (x : Int) (m : Int) * (p : Int))) = ((swp s m x : Nat) : Int) := by
  have hd : x / p < 18446744073709551616 := Nat.lt_of_le_of_lt (Nat.div_le_self _ _) hx
  have e1 : ((x : Int) / (p : Int)) = ((x / p : Nat) : Int) := by simp
  rw [e1, u64_and_nat _ _ hd hm, u64_and_nat _ _ hx hm, IntKind.wrap_u64]
  have e2 : (((x &&& m : Nat) : Int) * (p : Int)) % 18446744073709551616 = (((x &&& m) * p % 18446744073709551616 : Nat) : Int) := by
    rw [Int.natCast_emod, Int.natCast_mul]; rfl
  rw [e2, u64_or_nat _ _ (Nat.lt_of_le_of_lt Nat.and_le_left hd) (Nat.mod_lt _ (by decide)), hp]
  rfl
theorem go_swpLast (x : Nat) (hx : x < 18446744073709551616) :
    bits .or .u64 ((x : Int) / 4294967296) (IntKind.u64.wrap ((x : Int) * 4294967296)) = ((swpLast x : Nat) : Int) := by
  have e1 : ((x : Int) / 4294967296) = ((x / 4294967296 : Nat) : Int) := by omega
  have e2 : ((x : Int) * 4294967296) % 18446744073709551616 = ((x * 4294967296 % 18446744073709551616 : Nat) : Int) := by omega
  rw [IntKind.wrap_u64, e1, e2, u64_or_nat _ _ (by omega) (by omega)]
  rfl
end Go.Proofs.YtpkpadepccneeaaGreatDoor.D
namespace Go.Proofs.YtpkpadepccneeaaGreatDoor
open Go.RowKit
set_option linter.unusedVariables false
set_option linter.unusedSimpArgs false
theorem swp8 (x : Nat) (hx : x < 18446744073709551616) : bits .or .u64 (bits .and .u64 ((x : Int) / 256) 71777214294589695) (IntKind.u64.wrap (bits .and .u64 (x : Int) 71777214294589695 * 256)) = ((D.swp 8 71777214294589695 x : Nat) : Int) :=
  D.go_swp 8 71777214294589695 x hx (by decide) 256 rfl
theorem swp16 (x : Nat) (hx : x < 18446744073709551616) : bits .or .u64 (bits .and .u64 ((x : Int) / 65536) 281470681808895) (IntKind.u64.wrap (bits .and .u64 (x : Int) 281470681808895 * 65536)) = ((D.swp 16 281470681808895 x : Nat) : Int) :=
  D.go_swp 16 281470681808895 x hx (by decide) 65536 rfl
theorem swp1 (x : Nat) (hx : x < 18446744073709551616) : bits .or .u64 (bits .and .u64 ((x : Int) / 2) 6148914691236517205) (IntKind.u64.wrap (bits .and .u64 (x : Int) 6148914691236517205 * 2)) = ((D.swp 1 6148914691236517205 x : Nat) : Int) :=
  D.go_swp 1 6148914691236517205 x hx (by decide) 2 rfl
theorem swp2 (x : Nat) (hx : x < 18446744073709551616) : bits .or .u64 (bits .and .u64 ((x : Int) / 4) 3689348814741910323) (IntKind.u64.wrap (bits .and .u64 (x : Int) 3689348814741910323 * 4)) = ((D.swp 2 3689348814741910323 x : Nat) : Int) :=
  D.go_swp 2 3689348814741910323 x hx (by decide) 4 rfl
theorem swp4 (x : Nat) (hx : x < 18446744073709551616) : bits .or .u64 (bits .and .u64 ((x : Int) / 16) 1085102592571150095) (IntKind.u64.wrap (bits .and .u64 (x : Int) 1085102592571150095 * 16)) = ((D.swp 4 1085102592571150095 x : Nat) : Int) :=
  D.go_swp 4 1085102592571150095 x hx (by decide) 16 rfl
set_option maxHeartbeats 400000 in
theorem revBytes_any (x : Nat) (w : World) (h1 : x < 18446744073709551616) :
    Calls Tryz.prog 251 #[.int .u64 x] w fun e w' => e = .returned (.int .u64 (D.revBytes x : Nat)) ∧ w = w' := by
  have H := Lib.hid h1
  go_enter Tryz.func251, Tryz.ntmps251
  go_wp2
  go_ret
  refine ⟨ret_int ?_, rfl⟩
  rw [swp8 x H.out, swp16 _ (D.swp_lt (by decide)), D.go_swpLast _ (D.swp_lt (by decide))]
  rfl
set_option maxHeartbeats 400000 in
theorem rev64_any (x : Nat) (w : World) (h1 : x < 18446744073709551616) :
    Calls Tryz.prog 213 #[.int .u64 x] w fun e w' => e = .returned (.int .u64 (D.rev64 x : Nat)) ∧ w = w' := by
  have H := Lib.hid h1
  go_enter Tryz.func213, Tryz.ntmps213
  go_wp2_with fail
  rw [swp1 x H.out, swp2 _ (D.swp_lt (by decide)), swp4 _ (D.swp_lt (by decide))]
  refine (revBytes_any _ _ (D.swp_lt (by decide))).mono ?_
  rintro e w' ⟨rfl, rfl⟩
  go_wp2_with fail
  go_ret
  exact ⟨rfl, rfl⟩
/-- What Bits answers. -/
noncomputable def bitsD (i k : Int) : Int := if k < 1 ∨ 62 < k then 0 else (D.R k.toNat (i % 18446744073709551616).toNat : Nat)
theorem bitsD_lt (i k : Int) : 0 ≤ bitsD i k ∧ bitsD i k < 4611686018427387904 := by
  unfold bitsD
  by_cases h : k < 1 ∨ 62 < k
  · rw [if_pos h]; omega
  · rw [if_neg h]
    have h1 := D.R_lt k.toNat (i % 18446744073709551616).toNat
    have h2 : 2 ^ k.toNat ≤ 2 ^ 62 := Nat.pow_le_pow_right (by decide) (by omega)
    generalize D.R k.toNat (i % 18446744073709551616).toNat = r at *
    have h3 : (2 : Nat) ^ 62 = 4611686018427387904 := by decide
    omega
theorem bits_div (i k : Int) (h0 : 1 ≤ k) (h1 : k ≤ 62) : wrap64 (((D.rev64 (i % 18446744073709551616).toNat : Nat) : Int) / 2 ^ (64 - k).toNat) = bitsD i k := by
  have hb := bitsD_lt i k
  have h64 : (64 - k).toNat = 64 - k.toNat := by omega
  have e : ((D.rev64 (i % 18446744073709551616).toNat : Nat) : Int) / 2 ^ (64 - k).toNat = ((D.rev64 (i % 18446744073709551616).toNat / 2 ^ (64 - k.toNat) : Nat) : Int) := by
    rw [h64]; simp
  rw [e, D.rev64_R (by omega) (by omega)]
  have e2 : ((D.R k.toNat (i % 18446744073709551616).toNat : Nat) : Int) = bitsD i k := by unfold bitsD; rw [if_neg (by omega)]
  rw [e2]
  unfold wrap64
  omega
set_option maxHeartbeats 400000 in
theorem bits_any (i k : Int) (w : World) : Calls Tryz.prog 153 #[.int .i64 i, .int .i64 k] w fun e w' => e = .returned (.int .i64 (bitsD i k)) ∧ w = w' := by
  by_cases hk : k < 1
  · have e := Lib.hid (show bitsD i k = 0 by unfold bitsD; rw [if_pos (.inl hk)])
    go_enter Tryz.func153, Tryz.ntmps153
    go_wp2
    go_ret
    rw [e.out]
    exact ⟨rfl, rfl⟩
  · by_cases hk2 : 62 < k
    · have e := Lib.hid (show bitsD i k = 0 by unfold bitsD; rw [if_pos (.inr hk2)])
      go_enter Tryz.func153, Tryz.ntmps153
      go_wp2
      go_ret
      rw [e.out]
      exact ⟨rfl, rfl⟩
    · have h0 : 1 ≤ k := by omega
      have h1 : k ≤ 62 := by omega
      have HB := Lib.hid (bits_div i k h0 h1)
      have HU := Lib.hid (show IntKind.u64.wrap i = ((i % 18446744073709551616).toNat : Nat) by rw [IntKind.wrap_u64]; omega)
      have hx : (i % 18446744073709551616).toNat < 18446744073709551616 := by omega
      have HX := Lib.hid hx
      clear hx hk hk2
      generalize (i % 18446744073709551616).toNat = x at *
      go_enter Tryz.func153, Tryz.ntmps153
      go_wp2_with fail
      rw [HU.out]
      refine (rev64_any x _ HX.out).mono ?_
      rintro e w' ⟨rfl, rfl⟩
      go_wp2_with fail
      go_ret
      exact ⟨ret_int HB.out, rfl⟩

theorem R_rv : ∀ (k x : Nat), D.R k x = F.rv k x
  | 0, _ => rfl
  | k + 1, x => by rw [D.R, F.rv, R_rv k]
theorem bits_rd (K i : Nat) (h2 : K ≤ 62) (hi : i < 9223372036854775808) (w : World) : Rd 153 #[.int .i64 (i : Int), .int .i64 (K : Int)] w (.int .i64 ((F.rv K i : Nat) : Int)) := by
  refine .of_same fun q => ?_
  have h := bits_any (i : Int) (K : Int) (w.drewN q)
  have e : bitsD (i : Int) (K : Int) = ((F.rv K i : Nat) : Int) := by
    unfold bitsD
    by_cases hK : K = 0
    · subst hK
      rw [if_pos (by omega)]; rfl
    · rw [if_neg (by omega), R_rv, Int.toNat_natCast, show ((i : Int) % 18446744073709551616).toNat = i by omega]
  rw [e] at h
  exact h
end Go.Proofs.YtpkpadepccneeaaGreatDoor

/- The walks of radix2.Fits and radix2.turned at any power of two up to 4096. No condition. -/
namespace Go.Proofs.YtpkpadepccneeaaGreatDoor
open Go.RowKit
set_option linter.unusedVariables false
set_option linter.unusedSimpArgs false
theorem pow_le12 {K : Nat} (h : K ≤ 12) : 1 ≤ 2 ^ K ∧ 2 ^ K ≤ 4096 := ⟨Nat.one_le_two_pow, Nat.pow_le_pow_right (by decide) h⟩
theorem fits_bits : ∀ K, K ≤ 12 → bits .and .i64 ((2 ^ K : Nat) : Int) (((2 ^ K : Nat) : Int) - 1) = 0 := by
  intro K hK
  have : ∀ K, K < 13 → bits .and .i64 ((2 ^ K : Nat) : Int) (((2 ^ K : Nat) : Int) - 1) = 0 := by decide +kernel
  exact this K (by omega)
theorem fits_any (K : Nat) (hK : K ≤ 12) (w : World) : Calls Tryz.prog 145 #[.int .i64 ((2 ^ K : Nat) : Int)] w fun e w' => e = .returned (.bool true) ∧ w = w' := by
  have h := pow_le12 hK
  have hb := fits_bits K hK
  generalize 2 ^ K = n at *
  have g0 : decide ((0 : Int) < (n : Int)) = true := decide_eq_true (by omega)
  have g0' : decide (0 < n) = true := decide_eq_true (by omega)
  have g1 : decide ((n : Int) ≤ 4096) = true := decide_eq_true (by omega)
  have g1' : decide (n ≤ 4096) = true := decide_eq_true (by omega)
  go_enter Tryz.func145, Tryz.ntmps145
  go_wp2_with fail
  go_ret
  exact ⟨by simp [hb], rfl⟩
theorem len_pow : ∀ K, K ≤ 12 → Lib.bitLen (2 ^ K) = K + 1 := by
  intro K hK
  have : ∀ K, K < 13 → Lib.bitLen (2 ^ K) = K + 1 := by decide +kernel
  exact this K (by omega)
/-- A row turned about, as far as it has come. -/
def tuL (K : Nat) (xs : List Nat) (k : Nat) : List Nat := (List.range (2 ^ K)).map fun m => if F.rv K m < k then xs.getD (F.rv K m) 0 else 0
theorem tuL_len (K : Nat) (xs : List Nat) (k : Nat) : (tuL K xs k).length = 2 ^ K := by simp [tuL]
theorem tuL_zero (K : Nat) (xs : List Nat) : tuL K xs 0 = List.replicate (2 ^ K) 0 := by
  refine List.ext_getElem (by simp [tuL]) fun i h1 h2 => ?_
  simp [tuL]
theorem tuL_set (K : Nat) (xs : List Nat) (k : Nat) (hk : k < 2 ^ K) : (tuL K xs k).set (F.rv K k) (xs.getD k 0) = tuL K xs (k + 1) := by
  refine List.ext_getElem (by simp [tuL]) fun i h1 h2 => ?_
  have hi : i < 2 ^ K := by simpa [tuL] using h2
  have ek : F.rv K (F.rv K k) = k := by rw [F.rv_rv, Nat.mod_eq_of_lt hk]
  have ei : F.rv K (F.rv K i) = i := by rw [F.rv_rv, Nat.mod_eq_of_lt hi]
  simp only [tuL, List.getElem_set, List.getElem_map, List.getElem_range]
  by_cases e : F.rv K k = i
  · subst e
    rw [if_pos rfl, ek, if_pos (by omega)]
  · rw [if_neg e]
    have hne : F.rv K i ≠ k := fun h => e (by rw [← h, ei])
    by_cases h : F.rv K i < k
    · rw [if_pos h, if_pos (by omega)]
    · rw [if_neg h, if_neg (by omega)]
theorem tuL_full (K : Nat) (xs : List Nat) : tuL K xs (2 ^ K) = (List.range (2 ^ K)).map fun m => xs.getD (F.rv K m) 0 := by
  unfold tuL
  refine List.map_congr_left fun m _ => ?_
  rw [if_pos (F.rv_lt K m)]
set_option maxRecDepth 100000 in
set_option maxHeartbeats 1000000 in
theorem turned_any (A : Option Addr) (c K : Nat) (xs : List Nat) (w : World) (hx : RI .u64 w A (nats xs)) (hl : xs.length = 2 ^ K) (hK : K ≤ 12) :
    Calls Tryz.prog 95 #[.slice A (2 ^ K : Nat) c] w fun e w' => ∃ g', e = .returned (.slice (some ⟨g', 0, none⟩) (2 ^ K : Nat) (2 ^ K : Nat)) ∧ OL w' w.heap.size g' (2 ^ K) ((List.range (2 ^ K)).map fun m => xs.getD (F.rv K m) 0) ∧ Below w.heap.size w w' := by
  have hn := pow_le12 hK
  have LEN := Lib.hid fun W => (show Rd 152 #[.int .u64 ((2 ^ K : Nat) : Int)] W (.int .i64 ((K + 1 : Nat) : Int)) from .of_same fun q => (Tryz.bits_Len ((2 ^ K : Nat) : Int) (W.drewN q) (by omega) (by omega)).mono fun e w' ⟨h, h'⟩ => ⟨h.trans (by rw [Int.toNat_natCast, len_pow K hK]), h'.symm⟩)
  have BT := Lib.hid fun W i (hi : i < 2 ^ K) => bits_rd K i (by omega) (by omega) W
  have HX := Lib.hid hx
  have HSET := Lib.hid (tuL_set K xs)
  have HZ := Lib.hid (tuL_zero K xs)
  have HFU := Lib.hid (tuL_full K xs)
  have HLN := Lib.hid (tuL_len K xs)
  have HRV := Lib.hid (F.rv_lt K)
  clear hx
  generalize hnn : 2 ^ K = n at *
  clear hnn
  have e1 : ((K + 1 : Nat) : Int) - 1 = (K : Int) := by omega
  have e2 : IntKind.u64.wrap (n : Int) = (n : Int) := w_small (by omega) (by omega)
  go_enter Tryz.func95, Tryz.ntmps95
  go_wp2_with fail
  with_reducible refine (LEN.out w).now.mono ?_
  rintro e_ w_ ⟨rfl, k1, rfl⟩
  have B0 := Lib.hid (below_drewN (Below.refl w.heap.size w) k1)
  go_wp2_with (refine wpList_makeI rfl (.tmp 13) (.tmp 13) 26 rfl w.heap.size 22 .u64 8 Tryz.underlying26 info22 (by decide) .i64 .i64 n rfl rfl (by omega) (Nat.le_refl _) ?_; intro w1 ho1 hb1 hs1; have HO1 := Lib.hid ho1; have HB1 := Lib.hid (B0.out.trans hb1); clear ho1 hb1 hs1)
  have HW0 := Lib.hid (show OL w1 w.heap.size w.heap.size n (tuL K xs 0) by
    have := HO1.out
    unfold OL
    rw [HLN.out, HZ.out]
    rw [show nats (List.replicate n 0) = List.replicate n 0 from List.map_replicate ..]
    exact this)
  clear HO1 LEN HZ
  go_loopw [17] (fun i wr => ∃ k : Nat, k ≤ n ∧ i = .int .i64 k ∧ Hid (OL wr w.heap.size w.heap.size n (tuL K xs k)) ∧ Hid (Below w.heap.size w wr)) (fun i _ => n - (intOf i).toNat)
  case atStart => exact ⟨0, by omega, rfl, HW0, HB1⟩
  case round =>
    obtain ⟨k, hk, rfl, HO, HB⟩ := hrel
    by_cases hlt : k < n
    · obtain ⟨ad, rfl, hcx⟩ := RI.nat (HX.out.below HB.out) (i := k) (by omega)
      have hr := HRV.out k
      have hrk := F.rv_lt K k
      have BK := Lib.hid (BT.out wr k hlt)
      have c0 := HO.out.cell (show F.rv K k < (tuL K xs k).length by rw [HLN.out]; exact hr)
      have f0 := HO.out.frozen (F.rv K k)
      have HN := Lib.hid (HSET.out k hlt)
      have hi0 : (0 : Int) ≤ (k : Int) := by omega
      have hi1 : (k : Int) < (n : Int) := by omega
      clear hrk
      generalize F.rv K k = r at *
      generalize xs.getD k 0 = x at *
      generalize (tuL K xs k).getD r 0 = old at *
      have hr0 : (0 : Int) ≤ (r : Int) := by omega
      have hr1 : (r : Int) < (n : Int) := by omega
      go_wp2_with fail
      with_reducible refine (BK.out.now).mono ?_
      rintro e_ w_ ⟨rfl, k2, rfl⟩
      have o1 : (wr.drewN k2).cell? ⟨w.heap.size, r, none⟩ = some (.int .u64 (old : Int)) := c0
      have f1 : (wr.drewN k2).frozen? ⟨w.heap.size, r, none⟩ = false := f0
      have HP := Lib.hid (OL.put (OL.drewN HO.out k2) r x)
      have HB2 := Lib.hid ((below_drewN HB.out k2).setCell (p := ⟨w.heap.size, r, none⟩) (Nat.le_refl _) (.int .u64 (x : Int)))
      clear c0 f0
      go_wp2_with fail
      go_roundw
      case rel => exact ⟨k + 1, by omega, by go_num, by rw [← HN.out]; exact HP, HB2⟩
      case measure => simp [intOf]; omega
    · have hkk : k = n := by omega
      subst hkk
      have ho := HO.out
      rw [HFU.out] at ho
      go_wp2_with fail
      go_ret
      exact ⟨_, rfl, ho, HB.out⟩
end Go.Proofs.YtpkpadepccneeaaGreatDoor

/- The walk of radix2.Down, forwards, at any power of two up to 4096: it is the sum that defines it. No condition. -/
namespace Go.Proofs.YtpkpadepccneeaaGreatDoor
open Go.RowKit
set_option linter.unusedVariables false
set_option linter.unusedSimpArgs false
/-- The transform's i-th sum. -/
def dftF (p r : Nat) (x : Nat → Nat) (n m : Nat) : Nat := F.S (fun t => x t * r ^ (t * m)) n % p
def dTop (p : Nat) (j u v : Nat) : Nat := (u + v) % p
def dLow (p r st : Nat) (j u v : Nat) : Nat := r ^ (j * st) % p * ((u + (p - v % p)) % p) % p
/-- A stage down, in plain. -/
theorem down_stage {p r K k : Nat} {x : Nat → Nat} {old : Nat → Nat} (hp : Nt.Prime p) (hk : k < K) (hw : ∀ q, r ^ q % p = 1 ↔ 2 ^ K ∣ q) (hi : F.DI p r K k x old) :
    F.DI p r K (k + 1) x (F.bf (2 ^ (K - (k + 1))) (dTop p) (dLow p r (2 ^ k)) old) := by
  have hp1 := hp.1
  have eh : 2 ^ (K - k) = 2 * 2 ^ (K - (k + 1)) := by
    have : 2 ^ (K - k) = 2 ^ (K - (k + 1)) * 2 := by rw [← Nat.pow_succ]; congr 1; omega
    omega
  have eK : 2 ^ K = 2 * (2 ^ k * 2 ^ (K - (k + 1))) := by rw [← Nat.pow_add, ← Nat.pow_succ']; congr 1; omega
  have hh0 : 0 < 2 ^ (K - (k + 1)) := Nat.two_pow_pos _
  have hhalf : (r ^ (2 ^ k * 2 ^ (K - (k + 1))) + 1) % p = 0 := F.half hp (Nat.mul_pos (Nat.two_pow_pos _) hh0) (fun q => by rw [← eK]; exact hw q)
  refine F.DI.step hk eh (by rw [(hw _).2 (Nat.dvd_refl _), Nat.mod_eq_of_lt hp1]) hi (fun b hb j hj => ?_) (fun b hb j hj => ?_)
  · rw [F.bf_top _ _ _ _ _ hj, dTop, Nat.mod_mod]
  · rw [show b * (2 * 2 ^ (K - (k + 1))) + 2 ^ (K - (k + 1)) + j = b * (2 * 2 ^ (K - (k + 1))) + j + 2 ^ (K - (k + 1)) by omega, F.bf_low _ _ _ _ _ hj, dLow, Nat.mod_mod, Nat.mul_comm]
    exact F.mulmod (by rw [Nat.mod_mod]; exact F.sub_as (by omega) hhalf) (by rw [Nat.mod_mod, Nat.mul_comm])
/-- What a row must be, as far as the stages have come. -/
structure DS (p r K k : Nat) (xs ys : List Nat) : Prop where
  len : ys.length = 2 ^ K
  low : ∀ i, i < 2 ^ K → ys.getD i 0 < p
  di : F.DI p r K k (fun t => xs.getD t 0) (fun t => ys.getD t 0)
theorem DI_congr {p r K k : Nat} {x y y' : Nat → Nat} (h : F.DI p r K k x y) (hk : k ≤ K) (e : ∀ i, i < 2 ^ K → y i = y' i) : F.DI p r K k x y' := by
  intro b hb m hm
  rw [← h b hb m hm]
  refine congrArg (· % p) (F.S_eq fun t ht => ?_)
  have : b * 2 ^ (K - k) + t < 2 ^ K := by
    have e1 : 2 ^ K = 2 ^ k * 2 ^ (K - k) := by rw [← Nat.pow_add]; congr 1; omega
    have e2 : (b + 1) * 2 ^ (K - k) ≤ 2 ^ k * 2 ^ (K - k) := Nat.mul_le_mul_right _ hb
    rw [Nat.add_mul, Nat.one_mul] at e2
    omega
  rw [e _ this]
theorem DS.next {p r K k : Nat} {xs ys : List Nat} (hp : Nt.Prime p) (hk : k < K) (hw : ∀ q, r ^ q % p = 1 ↔ 2 ^ K ∣ q) (h : DS p r K k xs ys) :
    DS p r K (k + 1) xs ((List.range (2 ^ K)).map (F.bf (2 ^ (K - (k + 1))) (dTop p) (dLow p r (2 ^ k)) fun t => ys.getD t 0)) := by
  have hp0 := hp.pos
  have hget : ∀ i, i < 2 ^ K → ((List.range (2 ^ K)).map (F.bf (2 ^ (K - (k + 1))) (dTop p) (dLow p r (2 ^ k)) fun t => ys.getD t 0)).getD i 0 = F.bf (2 ^ (K - (k + 1))) (dTop p) (dLow p r (2 ^ k)) (fun t => ys.getD t 0) i := fun i hi => mapget _ _ _ hi
  refine ⟨by simp, fun i hi => ?_, DI_congr (down_stage hp hk hw h.di) hk fun i hi => (hget i hi).symm⟩
  rw [hget i hi]
  unfold F.bf dTop dLow
  split <;> exact Nat.mod_lt _ hp0
theorem DS.done {p r K : Nat} {xs ys : List Nat} (h : DS p r K K xs ys) : (List.range (2 ^ K)).map (fun m => ys.getD (F.rv K m) 0) = (List.range (2 ^ K)).map (dftF p r (fun t => xs.getD t 0) (2 ^ K)) := by
  refine List.map_congr_left fun m hm => ?_
  have hm' := List.mem_range.1 hm
  have hl := F.rv_lt K m
  have := h.di.done (F.rv K m) hl
  rw [Nat.mod_eq_of_lt (h.low _ hl), F.rv_rv, Nat.mod_eq_of_lt hm'] at this
  exact this
end Go.Proofs.YtpkpadepccneeaaGreatDoor

/- The walk of radix2.Down, forwards, at any power of two up to 4096. No condition. -/
namespace Go.Proofs.YtpkpadepccneeaaGreatDoor
open Go.RowKit
set_option linter.unusedVariables false
set_option linter.unusedSimpArgs false
theorem tdiv2 (h : Nat) : ((2 * h : Nat) : Int).tdiv 2 = (h : Int) := by
  rw [show (2 : Int) = ((2 : Nat) : Int) from rfl, tdiv_nat]; congr 1; omega
theorem RI.someOf {w : World} {A : Option Addr} {k : IntKind} {l : List Int} (h : RI k w A l) (hl : 0 < l.length) : ∃ ad, A = Option.some ad := by
  obtain ⟨ad, e, _⟩ := h 0 hl
  exact ⟨ad, e⟩
theorem OL.riD {w : World} {B g c : Nat} {ys : List Nat} (h : OL w B g c ys) : RI .u64 w (Option.some ⟨g, 0, none⟩) (nats ys) := by
  obtain ⟨A', c', e, hr⟩ := OI.form h
  injection e with e1 _ _
  rw [e1]; exact hr
set_option maxRecDepth 100000 in
set_option maxHeartbeats 8000000 in
theorem Down_any (gf p g r K : Nat) (A : Option Addr) (c : Nat) (xs : List Nat) (w : World) (hf : FD w gf p g) (hg : g < Mg.R) (hx : RI .u64 w A (nats xs)) (hl : xs.length = 2 ^ K) (hK : K ≤ 12)
    (hd : divs p ((2 ^ K : Nat) : Int) = true) (hr : g ^ ((p - 1) / 2 ^ K) % p = r) (hb : ∀ j, j < 2 ^ K → xs.getD j 0 < p) (hp : Nt.Prime p) (hw : ∀ q, r ^ q % p = 1 ↔ 2 ^ K ∣ q) :
    Calls Tryz.prog 49 #[.pointer (some ⟨gf, 0, none⟩), .slice A (2 ^ K : Nat) c, .bool false] w fun e w' => ∃ g', e = .returned (.tuple #[.slice (some ⟨g', 0, none⟩) (2 ^ K : Nat) (2 ^ K : Nat), .int .i64 0]) ∧
      OL w' w.heap.size g' (2 ^ K) ((List.range (2 ^ K)).map (dftF p r (fun t => xs.getD t 0) (2 ^ K))) ∧ Below w.heap.size w w' := by
  have hn := pow_le12 hK
  have hp0 := hp.pos
  have hR : p < Mg.R := by have := hf.high; simp only [Mg.R]; omega
  have hodd := hf.odd
  obtain ⟨ad, rfl⟩ := hx.someOf (by rw [nats_len]; omega)
  have C1 := rCheck_ok gf p g (2 ^ K) (some ad) c xs w hf hx hl hn.1 hn.2 hd hb (fits_any K hK)
  have C2 := Lib.hid fun (W : World) (h : Below w.heap.size w W) => (show Calls Tryz.prog 90 #[.pointer (some ⟨gf, 0, none⟩), .int .i64 ((2 ^ K : Nat) : Int), .bool false] W _ from Lifted_of gf p g (2 ^ K) r false W (hf.below h) hn.1 hn.2 (by
    have := Root_fwd gf p g (2 ^ K) W (hf.below h) hg hn.1 hn.2 hd
    rwa [hr] at this) (by rw [← hr]; exact Nat.lt_trans (Nat.mod_lt _ hp0) hR))
  have C3 := Lib.hid fun (W : World) (h : Below w.heap.size w W) => (show Calls Tryz.prog 65 #[.slice (some ad) (2 ^ K : Nat) c] W _ from by
    have := Clone65_any ad c (nats xs) W (hx.below h) (by rw [nats_len]; omega)
    rwa [nats_len, hl] at this)
  have HE := Lib.hid fun v W => ended_no gf v W
  have HS0 := Lib.hid (show DS p r K 0 xs xs from ⟨hl, hb, F.DI.start _ _ _ _⟩)
  have HSN := Lib.hid fun k (hk : k < K) ys (h : DS p r K k xs ys) => h.next hp hk hw
  have HSD := Lib.hid fun ys (h : DS p r K K xs ys) => h.done
  have HT := Lib.hid fun (A' : Option Addr) (c' : Nat) (ys : List Nat) (W : World) (h : RI .u64 W A' (nats ys)) (hy : ys.length = 2 ^ K) => turned_any A' c' K ys W h hy hK
  have HPW := Lib.hid fun k (hk : k < K) => (show 2 ^ (K - k) = 2 * 2 ^ (K - (k + 1)) ∧ 2 ^ K = 2 ^ k * (2 * 2 ^ (K - (k + 1))) ∧ 0 < 2 ^ (K - (k + 1)) ∧ 0 < 2 ^ k from ⟨by rw [← Nat.pow_succ']; congr 1; omega, by rw [← Nat.pow_succ', ← Nat.pow_add]; congr 1; omega, Nat.two_pow_pos _, Nat.two_pow_pos _⟩)
  have HAD := Lib.hid fun (W : World) (h : Below w.heap.size w W) x y hx hy => fAdd_rd gf p g x y W (hf.below h) hx hy
  have HSU := Lib.hid fun (W : World) (h : Below w.heap.size w W) x y hx hy => fSub_rd gf p g x y W (hf.below h) hx hy
  have HTI := Lib.hid fun (W : World) (h : Below w.heap.size w W) (x y : Nat) (hy : y < Mg.R) => (show Rd 92 #[.pointer (some ⟨gf, 0, none⟩), .int .u64 (Mg.mform p x : Nat), .int .u64 y] W (.int .u64 ((x * y % p : Nat) : Int)) from by
    have := fTimes_rd gf p g (Mg.mform p x) y W (hf.below h) (Nat.lt_trans (Mg.mform_lt hp0 x) hR) hy
    rwa [Mg.mm_form hp0 hodd] at this)
  have H2K : 2 ^ 0 = 1 := rfl
  clear hf hx hd hb hw hp hr
  generalize hnn : 2 ^ K = n at *
  go_enter Tryz.func49, Tryz.ntmps49
  go_wp2_with fail
  with_reducible refine C1.now.mono ?_
  rintro e_ w_ ⟨rfl, k1, rfl⟩
  have B1 := Lib.hid (below_drewN (Below.refl w.heap.size w) k1)
  go_wp2_with fail
  refine (C2.out _ B1.out).mono ?_
  rintro e w2 ⟨gt, ct, rfl, ho2, hb2⟩
  have T2 := Lib.hid ho2
  have B2 := Lib.hid (below_then B1.out B1.out.size hb2)
  clear hb2 ho2
  go_wp2_with fail
  refine (C3.out _ B2.out).mono ?_
  rintro e w3 ⟨v, rfl, ho3, hb3⟩
  obtain ⟨A3, c3, rfl, hr3⟩ := ho3.form
  obtain ⟨g3, rfl⟩ := ho3.some (i := 0) (by rw [nats_len]; omega)
  have HO3 := Lib.hid (show OL w3 w2.heap.size g3 c3 xs from by
    unfold OL
    rw [← nats_len]; exact ho3)
  rw [nats_len, hl]
  have hg3 := ho3.base.1
  have B3 := Lib.hid hb3
  have hgt : gt < w2.heap.size := T2.out.base.2
  have hne : ¬ g3 = gt := by omega
  have hne' : ¬ gt = g3 := by omega
  have BW := Lib.hid fun (U : World) (h : Below w2.heap.size w2 U) => below_then B2.out B2.out.size h
  have TW := Lib.hid (fun (U : World) (h : Below w2.heap.size w2 U) (t : Nat) (ht : t < n) => show U.cell? ⟨gt, t, none⟩ = some (.int .u64 ((Mg.mform p (r ^ t % p) : Nat) : Int)) from by
    have hlt : (nats ((List.range n).map fun i => Mg.mform p (r ^ i % p))).length = n := by rw [nats_len]; simp
    have := ((show OI .u64 22 w2 w.heap.size (.slice (some ⟨gt, 0, none⟩) (nats ((List.range n).map fun i => Mg.mform p (r ^ i % p))).length ct) (nats ((List.range n).map fun i => Mg.mform p (r ^ i % p))) from by
      rw [hlt]; exact T2.out.mono (B1.out.size)).cellAt (i := t) (by rw [hlt]; exact ht))
    rw [nats_get] at this
    have e : ((List.range n).map fun i => Mg.mform p (r ^ i % p)).getD t 0 = Mg.mform p (r ^ t % p) := mapget (fun i => Mg.mform p (r ^ i % p)) n t ht
    rw [e] at this
    exact bcell h this)
  clear ho3 hb3 hr3 T2 C1 C2 C3
  go_wp2_with fail
  go_loopw [13] (fun sz wr => ∃ (k : Nat) (ys : List Nat), k ≤ K ∧ sz = .int .i64 ((2 ^ (K - k) : Nat) : Int) ∧ Hid (DS p r K k xs ys) ∧ Hid (OL wr w2.heap.size g3 c3 ys) ∧ Hid (Below w2.heap.size w2 wr)) (fun sz _ => (intOf sz).toNat)
  case atStart => exact ⟨0, xs, Nat.zero_le _, by rw [Nat.sub_zero, hnn], HS0, HO3, B3⟩
  case round =>
    obtain ⟨k, ys, hk, rfl, HD, HO, HB⟩ := hrel
    by_cases hlt : k < K
    · obtain ⟨e1, e2, h0, s0⟩ := HPW.out k hlt
      have HN := Lib.hid (HSN.out k hlt ys HD.out)
      have hlen := HD.out.len
      have hlow := HD.out.low
      rw [e1]
      rw [hnn] at hlen hlow
      generalize hhh : 2 ^ (K - (k + 1)) = h at *
      generalize hst : 2 ^ k = st at *
      have HL := Lib.hid hlen
      have HLW := Lib.hid hlow
      clear hlen hlow HD hst
      have HZ0 := Lib.hid (show (List.range n).map (fun t => ys.getD t 0) = ys from by
        refine List.ext_getElem (by simp [HL.out]) fun i h1 h2 => ?_
        simp [List.getD_eq_getElem?_getD, h2])
      generalize hod : (fun t => ys.getD t 0) = old at *
      have HOD := Lib.hid (show ∀ i, i < n → old i < p from fun i hi => by rw [← hod]; exact HLW.out i hi)
      clear hod HLW
      have HTOP := Lib.hid fun b j (hj : j < h) => F.bf_top (dTop p) (dLow p r st) old b j hj
      have HLOW := Lib.hid fun b j (hj : j < h) => F.bf_low (dTop p) (dLow p r st) old b j hj
      generalize hnw : F.bf h (dTop p) (dLow p r st) old = new at *
      clear hnw
      have HU := Lib.hid fun b j (hj : j < h) (hn : b * (2 * h) + 2 * h ≤ n) => F.stL_u (n := n) new old hj hn
      have HV := Lib.hid fun b j (hj : j < h) (hn : b * (2 * h) + 2 * h ≤ n) => F.stL_v (n := n) new old hj hn
      have HSE := Lib.hid fun b j (hj : j < h) (hn : b * (2 * h) + 2 * h ≤ n) => F.stL_set (n := n) new old hj hn
      have HNX := Lib.hid fun b => F.stL_next (n := n) (h := h) (b := b) new old
      have HZ := Lib.hid ((F.stL_zero n h new old).trans HZ0.out)
      have HFU := Lib.hid fun b (hb : n ≤ b * (2 * h)) => F.stL_full (n := n) (h := h) new old hb
      generalize hs : 2 * h = s at *
      have hsn : s ≤ n := by rw [e2]; exact Nat.le_mul_of_pos_left _ s0
      have g0 : decide ((2 : Int) ≤ (s : Int)) = true := decide_eq_true (by omega)
      have g0' : decide (2 ≤ s) = true := decide_eq_true (by omega)
      have q1 : (s : Int).tdiv 2 = (h : Int) := by rw [← hs]; exact tdiv2 h
      have q2 : (n : Int).tdiv (s : Int) = (st : Int) := by rw [tdiv_nat, e2, Nat.mul_div_cancel _ (by omega)]
      have q3 : ¬ (s : Int) = 0 := by omega
      have q3' : ¬ s = 0 := by omega
      have hstn : st ≤ n := by rw [e2]; exact Nat.le_mul_of_pos_right _ (by omega)
      have E2 := Lib.hid e2
      have HHH := Lib.hid hhh
      have HS := Lib.hid hs
      have hhs : h < s := by omega
      have hhs2 : h + h = s := by omega
      have HBS := Lib.hid (show ∀ b, b < st → b * s + s ≤ n ∧ b * s + s = (b + 1) * s from fun b hbl => by
        have := Nat.mul_le_mul_right s hbl
        rw [Nat.succ_mul] at this
        exact ⟨by omega, by rw [Nat.add_mul, Nat.one_mul]⟩)
      have HQ := Lib.hid (show ∀ j, j < h → j * st < n from fun j hjl => by
        have h1 : j * st < h * st := (Nat.mul_lt_mul_right s0).2 hjl
        have h2 : h * st ≤ n := by rw [e2, Nat.mul_comm]; exact Nat.mul_le_mul_left _ (by omega)
        exact Nat.lt_of_lt_of_le h1 h2)
      clear e2 hhh hs
      have q4 : IntKind.i64.wrap (h : Int) = (h : Int) := by rw [IntKind.wrap_i64]; omega
      have q5 : IntKind.i64.wrap (st : Int) = (st : Int) := by rw [IntKind.wrap_i64]; omega
      have HO1 := Lib.hid (show OL wr.drew w2.heap.size g3 c3 ys from OL.drewN HO.out 1)
      have HB1 := Lib.hid (show Below w2.heap.size w2 wr.drew from below_drewN HB.out 1)
      go_wp2_with fail
      go_region_with (fail)
      go_wp2_with fail
      go_loopw [16] (fun a wr => ∃ b : Nat, b ≤ st ∧ a = .int .i64 ((b * s : Nat) : Int) ∧ Hid (OL wr w2.heap.size g3 c3 (F.stL n h b 0 new old)) ∧ Hid (Below w2.heap.size w2 wr)) (fun a _ => n - (intOf a).toNat)
      case atStart => exact ⟨0, Nat.zero_le _, by rw [Nat.zero_mul]; rfl, by rw [HZ.out]; exact HO1, HB1⟩
      case round =>
        clear HO HB HO1 HB1
        obtain ⟨b, hb, rfl, HO, HB⟩ := hrel
        by_cases hbl : b < st
        · obtain ⟨hbs, hnb⟩ := HBS.out b hbl
          have TOP := Lib.hid (HTOP.out b)
          have LOW := Lib.hid (HLOW.out b)
          have U := Lib.hid fun j hj => HU.out b j hj hbs
          have V := Lib.hid fun j hj => HV.out b j hj hbs
          have SE := Lib.hid fun j hj => HSE.out b j hj hbs
          have NX := Lib.hid (HNX.out b)
          have HNB := Lib.hid hnb
          clear hnb
          generalize b * s = a at *
          have g1 : decide ((a : Int) < (n : Int)) = true := decide_eq_true (by omega)
          have g1' : decide (a < n) = true := decide_eq_true (by omega)
          go_wp2_with fail
          go_loopw [54] (fun i wr => ∃ j : Nat, j ≤ h ∧ i = .int .i64 j ∧ Hid (OL wr w2.heap.size g3 c3 (F.stL n h b j new old)) ∧ Hid (Below w2.heap.size w2 wr)) (fun i _ => h - (intOf i).toNat)
          case atStart => exact ⟨0, Nat.zero_le _, rfl, HO, HB⟩
          case round =>
            clear HO HB
            obtain ⟨j, hj, rfl, HO, HB⟩ := hrel
            by_cases hjl : j < h
            · have c1 := HO.out.cell (k := a + j) (by rw [F.stL_len]; omega)
              have c2 := HO.out.cell (k := a + j + h) (by rw [F.stL_len]; omega)
              rw [U.out j hjl] at c1
              rw [V.out j hjl] at c2
              have u1 := Nat.lt_trans (HOD.out (a + j) (by omega)) hR
              have v1 := Nat.lt_trans (HOD.out (a + j + h) (by omega)) hR
              have n1 := TOP.out j hjl
              have n2 := LOW.out j hjl
              have hq := HQ.out j hjl
              have SET := Lib.hid (SE.out j hjl)
              have VV := V.out j hjl
              generalize old (a + j) = u at *
              generalize old (a + j + h) = v at *
              unfold dTop at n1
              unfold dLow at n2
              have hOd : OL wr.drew w2.heap.size g3 c3 (F.stL n h b j new old) := OL.drewN HO.out 1
              have hBd : Below w2.heap.size w2 wr.drew := below_drewN HB.out 1
              have ct := TW.out _ hBd _ hq
              have d1 : wr.drew.cell? ⟨g3, a + j, none⟩ = some (.int .u64 (u : Int)) := c1
              have f1 := hOd.frozen (a + j)
              have P1 := Lib.hid fun q => OL.put (OL.drewN hOd q) (a + j) ((u + v) % p)
              have HO2 := Lib.hid fun q => OL.put (OL.put (OL.drewN hOd q) (a + j) ((u + v) % p)) (a + j + h) (r ^ (j * st) % p * ((u + (p - v % p)) % p) % p)
              have HB2 := Lib.hid fun q => ((below_drewN hBd q).setCell (p := ⟨g3, a + j, none⟩) hg3 (.int .u64 (((u + v) % p : Nat) : Int))).setCell (p := ⟨g3, a + j + h, none⟩) hg3 (.int .u64 ((r ^ (j * st) % p * ((u + (p - v % p)) % p) % p : Nat) : Int))
              rw [n1, n2] at SET
              have CA := Lib.hid (HAD.out wr.drew (BW.out _ hBd) u v u1 v1)
              have CS := Lib.hid (HSU.out wr.drew (BW.out _ hBd) u v u1 v1)
              have CM := Lib.hid (HTI.out wr.drew (BW.out _ hBd) (r ^ (j * st) % p) ((u + (p - v % p)) % p) (Nat.lt_trans (Nat.mod_lt _ hp0) hR))
              clear n1 n2 u1 v1 hOd hBd
              have hx1 : a + j < n := by omega
              have hx2 : a + j + h < n := by omega
              have hxne : ¬ a + j = a + j + h := by omega
              have i1 : IntKind.i64.wrap ((a : Int) + (j : Int)) = ((a + j : Nat) : Int) := by rw [IntKind.wrap_i64]; omega
              have i2 : IntKind.i64.wrap (((a + j : Nat) : Int) + (h : Int)) = ((a + j + h : Nat) : Int) := by rw [IntKind.wrap_i64]; omega
              have i3 : IntKind.i64.wrap ((j : Int) * (st : Int)) = ((j * st : Nat) : Int) := by rw [← Int.natCast_mul, IntKind.wrap_i64]; omega
              generalize Mg.mform p (r ^ (j * st) % p) = mt at *
              generalize r ^ (j * st) % p * ((u + (p - v % p)) % p) % p = lw at *
              generalize (u + (p - v % p)) % p = sv at *
              generalize (u + v) % p = tp at *
              generalize j * st = q at *
              generalize hx2e : a + j + h = x2 at *
              generalize a + j = x1 at *
              have HVV := Lib.hid (show ∀ W, OL W w2.heap.size g3 c3 ((F.stL n h b j new old).set x1 tp) → W.cell? ⟨g3, x2, none⟩ = some (.int .u64 (v : Int)) from fun W hW => by
                have := hW.cell (k := x2) (by rw [List.length_set, F.stL_len]; exact hx2)
                rwa [List.getD_eq_getElem?_getD, List.getElem?_set_ne hxne, ← List.getD_eq_getElem?_getD, VV] at this)
              clear VV hx2e
              have i4 : (0 : Int) ≤ (x1 : Int) := by omega
              have i5 : (x1 : Int) < (n : Int) := by omega
              have i6 : (0 : Int) ≤ (x2 : Int) := by omega
              have i7 : (x2 : Int) < (n : Int) := by omega
              have i8 : (0 : Int) ≤ (q : Int) := by omega
              have i9 : (q : Int) < (n : Int) := by omega
              have j0 : decide ((j : Int) < (h : Int)) = true := decide_eq_true (by omega)
              have j0' : decide (j < h) = true := decide_eq_true hjl
              go_wp2_with fail
              have hS : wr.cell? ⟨g3, x1, none⟩ = some (.int .u64 (u : Int)) ∧ wr.cell? ⟨g3, x2, none⟩ = some (.int .u64 (v : Int)) := ⟨c1, c2⟩
              go_region_held3 (fun W' => W'.cell? ⟨g3, x1, none⟩ = some (.int .u64 (u : Int)) ∧ W'.cell? ⟨g3, x2, none⟩ = some (.int .u64 (v : Int))) (first | exact hS | go_keep) (fail)
              go_wp2_with fail
              generalize wr.drew = W1 at *
              clear hS c1 c2
              go_region_held3 (fun W' => W'.cell? ⟨gt, q, none⟩ = some (.int .u64 (mt : Int))) (first | exact ct | exact hV1 | exact hV2 | go_keep)
                (first
                | (go_at_call 91; refine (Rd.go CA.out _).mono ?_; rintro e_ w_ ⟨rfl, j1, rfl⟩)
                | (go_at_call 93; refine (Rd.go CS.out _).mono ?_; rintro e_ w_ ⟨rfl, j2, rfl⟩)
                | (go_at_call 92; refine (Rd.go CM.out _).mono ?_; rintro e_ w_ ⟨rfl, j3, rfl⟩;
                    (have a1 : (W1.drewN (1 + j1 + j2 + j3)).cell? ⟨g3, x1, none⟩ = some (.int .u64 (u : Int)) := d1);
                    (have a2 : (W1.drewN (1 + j1 + j2 + j3)).frozen? ⟨g3, x1, none⟩ = false := f1);
                    (have hP := P1.out (1 + j1 + j2 + j3));
                    (have a3 := HVV.out _ hP);
                    (have a4 := hP.frozen x2);
                    (have hV1 : ((W1.drewN (1 + j1 + j2 + j3)).setCell ⟨g3, x1, none⟩ (.int .u64 (tp : Int))).cell? ⟨gt, q, none⟩ = some (.int .u64 (mt : Int)) := (Fr.setCell (S := fun i => i = g3) (p := ⟨g3, x1, none⟩) rfl _ _).cell (show (W1.drewN (1 + j1 + j2 + j3)).cell? ⟨gt, q, none⟩ = some (.int .u64 (mt : Int)) from ct) hne');
                    (have hV2 : (((W1.drewN (1 + j1 + j2 + j3)).setCell ⟨g3, x1, none⟩ (.int .u64 (tp : Int))).setCell ⟨g3, x2, none⟩ (.int .u64 (lw : Int))).cell? ⟨gt, q, none⟩ = some (.int .u64 (mt : Int)) := (Fr.setCell (S := fun i => i = g3) (p := ⟨g3, x2, none⟩) rfl _ _).cell hV1 hne')))
              go_wp2_with fail
              go_roundw
              case rel => exact ⟨j + 1, by omega, by go_num, by rw [← SET.out]; exact Lib.hid (HO2.out _), Lib.hid (HB2.out _)⟩
              case measure => simp [intOf]; omega
            · have hjh : j = h := by omega
              subst hjh
              have hOn := HO.out
              rw [NX.out] at hOn
              have g2 : decide ((j : Int) < (j : Int)) = false := decide_eq_false (by omega)
              go_wp2_with fail
              go_roundw
              case rel => exact ⟨b + 1, by omega, by rw [← HNB.out]; go_num, Lib.hid hOn, HB⟩
              case measure => simp [intOf]; omega
        · have hbe : b = st := by omega
          subst hbe
          have hbn : b * s = n := E2.out.symm
          have g1 : decide (((b * s : Nat) : Int) < (n : Int)) = false := decide_eq_false (by omega)
          have g1' : decide (b * s < n) = false := decide_eq_false (by omega)
          have hOn := HO.out
          rw [HFU.out b (by omega)] at hOn
          clear hbn
          have e5 : K - (k + 1) = K - (k + 1) := rfl
          generalize b * s = a at *
          go_wp2_with fail
          go_roundw
          case rel => exact ⟨k + 1, _, by omega, by rw [HHH.out], HN, Lib.hid hOn, HB⟩
          case measure => simp [intOf]; omega
    · have hkk : k = K := by omega
      subst hkk
      have hnz : 2 ^ (k - k) = 1 := by rw [Nat.sub_self]
      rw [hnz]
      have hlen := HD.out.len
      rw [hnn] at hlen
      have CT := Lib.hid (HT.out (some ⟨g3, 0, none⟩) c3 ys wr HO.out.riD hlen)
      have DN := Lib.hid (HSD.out ys HD.out)
      have BB := Lib.hid (BW.out _ HB.out)
      clear hlen hnz
      go_wp2_with fail
      refine CT.out.mono ?_
      rintro e w4 ⟨g4, rfl, ho4, hb4⟩
      have HO4 := Lib.hid (show OL w4 w.heap.size g4 n _ from OI.mono ho4 BB.out.size)
      have B4 := Lib.hid (below_then BB.out BB.out.size hb4)
      clear ho4 hb4
      go_wp2_with fail
      refine (HE.out _ _).mono ?_
      rintro e w5 ⟨rfl, rfl⟩
      have hO4 := HO4.out
      rw [DN.out] at hO4
      go_wp2_with fail
      go_ret2
      exact ⟨g4, rfl, hO4, B4.out⟩
end Go.Proofs.YtpkpadepccneeaaGreatDoor

/- Stages from pairs up to the whole, in plain. No condition. -/
namespace Go.Proofs.YtpkpadepccneeaaGreatDoor
open Go.RowKit
set_option linter.unusedVariables false
set_option linter.unusedSimpArgs false
def uTop (p r st : Nat) (j u v : Nat) : Nat := (u + r ^ (j * st) % p * v % p) % p
def uLow (p r st : Nat) (j u v : Nat) : Nat := (u + (p - r ^ (j * st) % p * v % p % p)) % p
theorem up_stage {p r K k : Nat} {x : Nat → Nat} {old : Nat → Nat} (hp : Nt.Prime p) (hk : k < K) (hw : ∀ q, r ^ q % p = 1 ↔ 2 ^ K ∣ q) (hi : F.UI p r K k x old) :
    F.UI p r K (k + 1) x (F.bf (2 ^ k) (uTop p r (2 ^ (K - (k + 1)))) (uLow p r (2 ^ (K - (k + 1)))) old) := by
  have hp1 := hp.1
  have eK : 2 ^ K = 2 * (2 ^ (K - (k + 1)) * 2 ^ k) := by rw [← Nat.pow_add, ← Nat.pow_succ']; congr 1; omega
  have hh0 : 0 < 2 ^ k := Nat.two_pow_pos _
  have hhalf : (r ^ (2 ^ (K - (k + 1)) * 2 ^ k) + 1) % p = 0 := F.half hp (Nat.mul_pos (Nat.two_pow_pos _) hh0) (fun q => by rw [← eK]; exact hw q)
  have hv : ∀ j v, r ^ (j * 2 ^ (K - (k + 1))) % p * v % p % p = r ^ (2 ^ (K - (k + 1)) * j) * v % p := fun j v => by
    rw [Nat.mod_mod, Nat.mul_comm j]
    exact F.mulmod (Nat.mod_mod _ _) rfl
  refine F.UI.step hk rfl (by rw [(hw _).2 (Nat.dvd_refl _), Nat.mod_eq_of_lt hp1]) hi (fun b hb j hj => ?_) (fun b hb j hj => ?_)
  · rw [F.bf_top _ _ _ _ _ hj, uTop, Nat.mod_mod]
    exact F.addmod rfl (hv j _)
  · rw [show b * (2 * 2 ^ k) + 2 ^ k + j = b * (2 * 2 ^ k) + j + 2 ^ k by omega, F.bf_low _ _ _ _ _ hj, uLow, Nat.mod_mod]
    refine (F.sub_as (by omega) hhalf).trans (F.addmod rfl (F.mulmod rfl (hv j _)))
structure US (p r K k : Nat) (xs ys : List Nat) : Prop where
  len : ys.length = 2 ^ K
  low : ∀ i, i < 2 ^ K → ys.getD i 0 < p
  ui : F.UI p r K k (fun t => xs.getD t 0) (fun t => ys.getD t 0)
theorem UI_congr {p r K k : Nat} {x y y' : Nat → Nat} (h : F.UI p r K k x y) (hk : k ≤ K) (e : ∀ i, i < 2 ^ K → y i = y' i) : F.UI p r K k x y' := by
  intro b hb m hm
  rw [← h b hb m hm]
  have : b * 2 ^ k + m < 2 ^ K := by
    have e1 : 2 ^ K = 2 ^ (K - k) * 2 ^ k := by rw [← Nat.pow_add]; congr 1; omega
    have e2 : (b + 1) * 2 ^ k ≤ 2 ^ (K - k) * 2 ^ k := Nat.mul_le_mul_right _ hb
    rw [Nat.add_mul, Nat.one_mul] at e2
    omega
  rw [e _ this]
theorem US.start {p r K : Nat} {xs : List Nat} (hb : ∀ i, i < 2 ^ K → xs.getD i 0 < p) : US p r K 0 xs ((List.range (2 ^ K)).map fun m => xs.getD (F.rv K m) 0) := by
  have hget : ∀ i, i < 2 ^ K → ((List.range (2 ^ K)).map fun m => xs.getD (F.rv K m) 0).getD i 0 = xs.getD (F.rv K i) 0 := fun i hi => mapget _ _ _ hi
  refine ⟨by simp, fun i hi => by rw [hget i hi]; exact hb _ (F.rv_lt K i), F.UI.start fun b hb => hget b hb⟩
theorem US.next {p r K k : Nat} {xs ys : List Nat} (hp : Nt.Prime p) (hk : k < K) (hw : ∀ q, r ^ q % p = 1 ↔ 2 ^ K ∣ q) (h : US p r K k xs ys) :
    US p r K (k + 1) xs ((List.range (2 ^ K)).map (F.bf (2 ^ k) (uTop p r (2 ^ (K - (k + 1)))) (uLow p r (2 ^ (K - (k + 1)))) fun t => ys.getD t 0)) := by
  have hp0 := hp.pos
  have hget : ∀ i, i < 2 ^ K → ((List.range (2 ^ K)).map (F.bf (2 ^ k) (uTop p r (2 ^ (K - (k + 1)))) (uLow p r (2 ^ (K - (k + 1)))) fun t => ys.getD t 0)).getD i 0 = F.bf (2 ^ k) (uTop p r (2 ^ (K - (k + 1)))) (uLow p r (2 ^ (K - (k + 1)))) (fun t => ys.getD t 0) i := fun i hi => mapget _ _ _ hi
  refine ⟨by simp, fun i hi => ?_, UI_congr (up_stage hp hk hw h.ui) hk fun i hi => (hget i hi).symm⟩
  rw [hget i hi]
  unfold F.bf uTop uLow
  split <;> exact Nat.mod_lt _ hp0
theorem US.done {p r K : Nat} {xs ys : List Nat} (h : US p r K K xs ys) : ys = (List.range (2 ^ K)).map (dftF p r (fun t => xs.getD t 0) (2 ^ K)) := by
  have hl := h.len
  refine List.ext_getElem (by simp [hl]) fun m h1 h2 => ?_
  have hm : m < 2 ^ K := by omega
  have := h.ui.done m hm
  rw [Nat.mod_eq_of_lt (h.low _ hm)] at this
  simp only [List.getElem_map, List.getElem_range]
  rw [← List.getElem_eq_getD (h := h1) 0] at this
  exact this
end Go.Proofs.YtpkpadepccneeaaGreatDoor

/- The walk of radix2.Up, back, at any power of two up to 4096. No condition. -/
namespace Go.Proofs.YtpkpadepccneeaaGreatDoor
open Go.RowKit
set_option linter.unusedVariables false
set_option linter.unusedSimpArgs false
set_option maxRecDepth 100000 in
set_option maxHeartbeats 8000000 in
theorem Up_any (gf p g r K : Nat) (A : Option Addr) (c : Nat) (xs : List Nat) (w : World) (hf : FD w gf p g) (hg : g < Mg.R) (hx : RI .u64 w A (nats xs)) (hl : xs.length = 2 ^ K) (hK : K ≤ 12)
    (hd : divs p ((2 ^ K : Nat) : Int) = true) (hr : ∀ W, Below w.heap.size w W → Rd 209 #[.pointer (some ⟨gf, 0, none⟩), .int .i64 ((2 ^ K : Nat) : Int), .bool true] W (.tuple #[.int .u64 (r : Int), .int .i64 0])) (hrR : r < Mg.R)
    (hb : ∀ j, j < 2 ^ K → xs.getD j 0 < p) (hp : Nt.Prime p) (hw : ∀ q, r ^ q % p = 1 ↔ 2 ^ K ∣ q) (hgn : Nat.gcd p (2 ^ K) = 1) :
    Calls Tryz.prog 50 #[.pointer (some ⟨gf, 0, none⟩), .slice A (2 ^ K : Nat) c, .bool true] w fun e w' => ∃ g', e = .returned (.tuple #[.slice (some ⟨g', 0, none⟩) (2 ^ K : Nat) (2 ^ K : Nat), .int .i64 0]) ∧
      OL w' w.heap.size g' (2 ^ K) ((List.range (2 ^ K)).map fun m => invN (2 ^ K) p * dftF p r (fun t => xs.getD t 0) (2 ^ K) m % p) ∧ Below w.heap.size w w' := by
  have hn := pow_le12 hK
  have hp0 := hp.pos
  have hR : p < Mg.R := by have := hf.high; simp only [Mg.R]; omega
  have hodd := hf.odd
  obtain ⟨ad, rfl⟩ := hx.someOf (by rw [nats_len]; omega)
  have C1 := rCheck_ok gf p g (2 ^ K) (some ad) c xs w hf hx hl hn.1 hn.2 hd hb (fits_any K hK)
  have C2 := Lib.hid fun (W : World) (h : Below w.heap.size w W) => (show Calls Tryz.prog 90 #[.pointer (some ⟨gf, 0, none⟩), .int .i64 ((2 ^ K : Nat) : Int), .bool true] W _ from Lifted_of gf p g (2 ^ K) r true W (hf.below h) hn.1 hn.2 (hr W h) hrR)
  have C3 := Lib.hid fun (W : World) (h : Below w.heap.size w W) => turned_any (some ad) c K xs W (hx.below h) hl hK
  have HE := Lib.hid fun (W : World) (h : Below w.heap.size w W) (B : Option Addr) (d : Nat) (ys : List Nat) (hr : RI .u64 W B (nats ys)) (hy : ys.length = 2 ^ K) (hb : ∀ i, i < 2 ^ K → ys.getD i 0 < Mg.R) => ended_yes gf p g B d (2 ^ K) ys W (hf.below h) hr hy hn.1 hn.2 hgn hb
  have HS0 := Lib.hid (US.start (r := r) hb)
  have HSN := Lib.hid fun k (hk : k < K) ys (h : US p r K k xs ys) => h.next hp hk hw
  have HSD := Lib.hid fun ys (h : US p r K K xs ys) => h.done
  have HPW := Lib.hid fun k (hk : k < K) => (show 2 ^ K = 2 ^ (K - (k + 1)) * (2 * 2 ^ k) ∧ 0 < 2 ^ k ∧ 0 < 2 ^ (K - (k + 1)) from ⟨by rw [← Nat.pow_succ', ← Nat.pow_add]; congr 1; omega, Nat.two_pow_pos _, Nat.two_pow_pos _⟩)
  have HAD := Lib.hid fun (W : World) (h : Below w.heap.size w W) x y hx hy => fAdd_rd gf p g x y W (hf.below h) hx hy
  have HSU := Lib.hid fun (W : World) (h : Below w.heap.size w W) x y hx hy => fSub_rd gf p g x y W (hf.below h) hx hy
  have HTI := Lib.hid fun (W : World) (h : Below w.heap.size w W) (x y : Nat) (hy : y < Mg.R) => (show Rd 92 #[.pointer (some ⟨gf, 0, none⟩), .int .u64 (Mg.mform p x : Nat), .int .u64 y] W (.int .u64 ((x * y % p : Nat) : Int)) from by
    have := fTimes_rd gf p g (Mg.mform p x) y W (hf.below h) (Nat.lt_trans (Mg.mform_lt hp0 x) hR) hy
    rwa [Mg.mm_form hp0 hodd] at this)
  have HMAP := Lib.hid fun (ys : List Nat) (h : ys = (List.range (2 ^ K)).map (dftF p r (fun t => xs.getD t 0) (2 ^ K))) => (show (List.range (2 ^ K)).map (fun i => invN (2 ^ K) p * ys.getD i 0 % p) = (List.range (2 ^ K)).map (fun m => invN (2 ^ K) p * dftF p r (fun t => xs.getD t 0) (2 ^ K) m % p) from by
    refine List.map_congr_left fun m hm => ?_
    rw [h, mapget _ _ _ (List.mem_range.1 hm)])
  have HKK : 2 ^ K < 2 ^ (K + 1) := by rw [Nat.pow_succ]; omega
  clear hf hx hd hb hw hp hr hgn
  generalize hnn : 2 ^ K = n at *
  go_enter Tryz.func50, Tryz.ntmps50
  go_wp2_with fail
  with_reducible refine C1.now.mono ?_
  rintro e_ w_ ⟨rfl, k1, rfl⟩
  have B1 := Lib.hid (below_drewN (Below.refl w.heap.size w) k1)
  go_wp2_with fail
  refine (C2.out _ B1.out).mono ?_
  rintro e w2 ⟨gt, ct, rfl, ho2, hb2⟩
  have T2 := Lib.hid ho2
  have B2 := Lib.hid (below_then B1.out B1.out.size hb2)
  clear hb2 ho2
  go_wp2_with fail
  refine (C3.out _ B2.out).mono ?_
  rintro e w3 ⟨g3, rfl, ho3, hb3⟩
  have HO3 := Lib.hid ho3
  have hg3 := (OI.base ho3).1
  have B3 := Lib.hid hb3
  have hgt : gt < w2.heap.size := T2.out.base.2
  have hne : ¬ g3 = gt := by omega
  have hne' : ¬ gt = g3 := by omega
  have BW := Lib.hid fun (U : World) (h : Below w2.heap.size w2 U) => below_then B2.out B2.out.size h
  have TW := Lib.hid (fun (U : World) (h : Below w2.heap.size w2 U) (t : Nat) (ht : t < n) => show U.cell? ⟨gt, t, none⟩ = some (.int .u64 ((Mg.mform p (r ^ t % p) : Nat) : Int)) from by
    have hlt : (nats ((List.range n).map fun i => Mg.mform p (r ^ i % p))).length = n := by rw [nats_len]; simp
    have := ((show OI .u64 22 w2 w.heap.size (.slice (some ⟨gt, 0, none⟩) (nats ((List.range n).map fun i => Mg.mform p (r ^ i % p))).length ct) (nats ((List.range n).map fun i => Mg.mform p (r ^ i % p))) from by
      rw [hlt]; exact T2.out.mono (B1.out.size)).cellAt (i := t) (by rw [hlt]; exact ht))
    rw [nats_get] at this
    have e : ((List.range n).map fun i => Mg.mform p (r ^ i % p)).getD t 0 = Mg.mform p (r ^ t % p) := mapget (fun i => Mg.mform p (r ^ i % p)) n t ht
    rw [e] at this
    exact bcell h this)
  clear ho3 hb3 T2 C1 C2 C3
  go_wp2_with fail
  go_loopw [13] (fun sz wr => ∃ (k : Nat) (ys : List Nat), k ≤ K ∧ sz = .int .i64 ((2 ^ (k + 1) : Nat) : Int) ∧ Hid (US p r K k xs ys) ∧ Hid (OL wr w2.heap.size g3 n ys) ∧ Hid (Below w2.heap.size w2 wr)) (fun sz _ => 2 * n - (intOf sz).toNat)
  case atStart => exact ⟨0, _, Nat.zero_le _, rfl, HS0, HO3, B3⟩
  case round =>
    obtain ⟨k, ys, hk, rfl, HD, HO, HB⟩ := hrel
    by_cases hlt : k < K
    · obtain ⟨e2, h0, s0⟩ := HPW.out k hlt
      have HN := Lib.hid (HSN.out k hlt ys HD.out)
      have hlen := HD.out.len
      have hlow := HD.out.low
      have e9 : 2 ^ (k + 1 + 1) = 2 * (2 * 2 ^ k) := by rw [Nat.pow_succ', Nat.pow_succ']
      rw [show 2 ^ (k + 1) = 2 * 2 ^ k from Nat.pow_succ' ..]
      rw [hnn] at hlen hlow
      generalize hhh : 2 ^ k = h at *
      generalize hst : 2 ^ (K - (k + 1)) = st at *
      have HL := Lib.hid hlen
      have HLW := Lib.hid hlow
      clear hlen hlow HD hst
      have HZ0 := Lib.hid (show (List.range n).map (fun t => ys.getD t 0) = ys from by
        refine List.ext_getElem (by simp [HL.out]) fun i h1 h2 => ?_
        simp [List.getD_eq_getElem?_getD, h2])
      generalize hod : (fun t => ys.getD t 0) = old at *
      have HOD := Lib.hid (show ∀ i, i < n → old i < p from fun i hi => by rw [← hod]; exact HLW.out i hi)
      clear hod HLW
      have HTOP := Lib.hid fun b j (hj : j < h) => F.bf_top (uTop p r st) (uLow p r st) old b j hj
      have HLOW := Lib.hid fun b j (hj : j < h) => F.bf_low (uTop p r st) (uLow p r st) old b j hj
      generalize hnw : F.bf h (uTop p r st) (uLow p r st) old = new at *
      clear hnw
      have HU := Lib.hid fun b j (hj : j < h) (hn : b * (2 * h) + 2 * h ≤ n) => F.stL_u (n := n) new old hj hn
      have HV := Lib.hid fun b j (hj : j < h) (hn : b * (2 * h) + 2 * h ≤ n) => F.stL_v (n := n) new old hj hn
      have HSE := Lib.hid fun b j (hj : j < h) (hn : b * (2 * h) + 2 * h ≤ n) => F.stL_set (n := n) new old hj hn
      have HNX := Lib.hid fun b => F.stL_next (n := n) (h := h) (b := b) new old
      have HZ := Lib.hid ((F.stL_zero n h new old).trans HZ0.out)
      have HFU := Lib.hid fun b (hb : n ≤ b * (2 * h)) => F.stL_full (n := n) (h := h) new old hb
      generalize hs : 2 * h = s at *
      have hsn : s ≤ n := by rw [e2]; exact Nat.le_mul_of_pos_left _ s0
      have g0 : decide ((s : Int) ≤ (n : Int)) = true := decide_eq_true (by omega)
      have g0' : decide (s ≤ n) = true := decide_eq_true (by omega)
      have E9 := Lib.hid e9
      clear e9
      have q1 : (s : Int).tdiv 2 = (h : Int) := by rw [← hs]; exact tdiv2 h
      have q2 : (n : Int).tdiv (s : Int) = (st : Int) := by rw [tdiv_nat, e2, Nat.mul_div_cancel _ (by omega)]
      have q3 : ¬ (s : Int) = 0 := by omega
      have q3' : ¬ s = 0 := by omega
      have hstn : st ≤ n := by rw [e2]; exact Nat.le_mul_of_pos_right _ (by omega)
      have E2 := Lib.hid e2
      have HHH := Lib.hid hhh
      have HS := Lib.hid hs
      have hhs : h < s := by omega
      have hhs2 : h + h = s := by omega
      have HBS := Lib.hid (show ∀ b, b < st → b * s + s ≤ n ∧ b * s + s = (b + 1) * s from fun b hbl => by
        have := Nat.mul_le_mul_right s hbl
        rw [Nat.succ_mul] at this
        exact ⟨by omega, by rw [Nat.add_mul, Nat.one_mul]⟩)
      have HQ := Lib.hid (show ∀ j, j < h → j * st < n from fun j hjl => by
        have h1 : j * st < h * st := (Nat.mul_lt_mul_right s0).2 hjl
        have h2 : h * st ≤ n := by rw [e2, Nat.mul_comm]; exact Nat.mul_le_mul_left _ (by omega)
        exact Nat.lt_of_lt_of_le h1 h2)
      clear e2 hhh hs
      have q4 : IntKind.i64.wrap (h : Int) = (h : Int) := by rw [IntKind.wrap_i64]; omega
      have q5 : IntKind.i64.wrap (st : Int) = (st : Int) := by rw [IntKind.wrap_i64]; omega
      have HO1 := Lib.hid (show OL wr.drew w2.heap.size g3 n ys from OL.drewN HO.out 1)
      have HB1 := Lib.hid (show Below w2.heap.size w2 wr.drew from below_drewN HB.out 1)
      go_wp2_with fail
      go_region_with (fail)
      go_wp2_with fail
      go_loopw [16] (fun a wr => ∃ b : Nat, b ≤ st ∧ a = .int .i64 ((b * s : Nat) : Int) ∧ Hid (OL wr w2.heap.size g3 n (F.stL n h b 0 new old)) ∧ Hid (Below w2.heap.size w2 wr)) (fun a _ => n - (intOf a).toNat)
      case atStart => exact ⟨0, Nat.zero_le _, by rw [Nat.zero_mul]; rfl, by rw [HZ.out]; exact HO1, HB1⟩
      case round =>
        clear HO HB HO1 HB1
        obtain ⟨b, hb, rfl, HO, HB⟩ := hrel
        by_cases hbl : b < st
        · obtain ⟨hbs, hnb⟩ := HBS.out b hbl
          have TOP := Lib.hid (HTOP.out b)
          have LOW := Lib.hid (HLOW.out b)
          have U := Lib.hid fun j hj => HU.out b j hj hbs
          have V := Lib.hid fun j hj => HV.out b j hj hbs
          have SE := Lib.hid fun j hj => HSE.out b j hj hbs
          have NX := Lib.hid (HNX.out b)
          have HNB := Lib.hid hnb
          clear hnb
          generalize b * s = a at *
          have g1 : decide ((a : Int) < (n : Int)) = true := decide_eq_true (by omega)
          have g1' : decide (a < n) = true := decide_eq_true (by omega)
          go_wp2_with fail
          go_loopw [54] (fun i wr => ∃ j : Nat, j ≤ h ∧ i = .int .i64 j ∧ Hid (OL wr w2.heap.size g3 n (F.stL n h b j new old)) ∧ Hid (Below w2.heap.size w2 wr)) (fun i _ => h - (intOf i).toNat)
          case atStart => exact ⟨0, Nat.zero_le _, rfl, HO, HB⟩
          case round =>
            clear HO HB
            obtain ⟨j, hj, rfl, HO, HB⟩ := hrel
            by_cases hjl : j < h
            · have c1 := HO.out.cell (k := a + j) (by rw [F.stL_len]; omega)
              have c2 := HO.out.cell (k := a + j + h) (by rw [F.stL_len]; omega)
              rw [U.out j hjl] at c1
              rw [V.out j hjl] at c2
              have u1 := Nat.lt_trans (HOD.out (a + j) (by omega)) hR
              have v1 := Nat.lt_trans (HOD.out (a + j + h) (by omega)) hR
              have n1 := TOP.out j hjl
              have n2 := LOW.out j hjl
              have hq := HQ.out j hjl
              have SET := Lib.hid (SE.out j hjl)
              have VV := V.out j hjl
              generalize old (a + j) = u at *
              generalize old (a + j + h) = v at *
              unfold uTop at n1
              unfold uLow at n2
              have ct := TW.out _ HB.out _ hq
              have hs1 : r ^ (j * st) % p * v % p < Mg.R := Nat.lt_trans (Nat.mod_lt _ hp0) hR
              have CM := Lib.hid (HTI.out wr (BW.out _ HB.out) (r ^ (j * st) % p) v v1)
              rw [n1, n2] at SET
              clear n1 n2 v1
              have hx1 : a + j < n := by omega
              have hx2 : a + j + h < n := by omega
              have hxne : ¬ a + j = a + j + h := by omega
              have i1 : IntKind.i64.wrap ((a : Int) + (j : Int)) = ((a + j : Nat) : Int) := by rw [IntKind.wrap_i64]; omega
              have i2 : IntKind.i64.wrap (((a + j : Nat) : Int) + (h : Int)) = ((a + j + h : Nat) : Int) := by rw [IntKind.wrap_i64]; omega
              have i3 : IntKind.i64.wrap ((j : Int) * (st : Int)) = ((j * st : Nat) : Int) := by rw [← Int.natCast_mul, IntKind.wrap_i64]; omega
              generalize Mg.mform p (r ^ (j * st) % p) = mt at *
              generalize r ^ (j * st) % p * v % p = tv at *
              generalize j * st = q at *
              generalize hx2e : a + j + h = x2 at *
              generalize a + j = x1 at *
              have i4 : (0 : Int) ≤ (x1 : Int) := by omega
              have i5 : (x1 : Int) < (n : Int) := by omega
              have i6 : (0 : Int) ≤ (x2 : Int) := by omega
              have i7 : (x2 : Int) < (n : Int) := by omega
              have i8 : (0 : Int) ≤ (q : Int) := by omega
              have i9 : (q : Int) < (n : Int) := by omega
              have j0 : decide ((j : Int) < (h : Int)) = true := decide_eq_true (by omega)
              have j0' : decide (j < h) = true := decide_eq_true hjl
              have HVV := Lib.hid (show ∀ W ys', OL W w2.heap.size g3 n ((F.stL n h b j new old).set x1 ys') → W.cell? ⟨g3, x2, none⟩ = some (.int .u64 (v : Int)) from fun W ys' hW => by
                have := hW.cell (k := x2) (by rw [List.length_set, F.stL_len]; exact hx2)
                rwa [List.getD_eq_getElem?_getD, List.getElem?_set_ne hxne, ← List.getD_eq_getElem?_getD, VV] at this)
              clear VV hx2e
              go_wp2_with fail
              have hS : (wr.cell? ⟨g3, x1, none⟩ = some (.int .u64 (u : Int)) ∧ wr.cell? ⟨g3, x2, none⟩ = some (.int .u64 (v : Int))) ∧ wr.cell? ⟨gt, q, none⟩ = some (.int .u64 (mt : Int)) := ⟨⟨c1, c2⟩, ct⟩
              go_region_held3 (fun W' => (W'.cell? ⟨g3, x1, none⟩ = some (.int .u64 (u : Int)) ∧ W'.cell? ⟨g3, x2, none⟩ = some (.int .u64 (v : Int))) ∧ W'.cell? ⟨gt, q, none⟩ = some (.int .u64 (mt : Int))) (first | exact hS | go_keep)
                ((go_at_call 92; refine (Rd.go CM.out _).mono ?_; rintro e_ w_ ⟨rfl, j3, rfl⟩))
              go_wp2_with fail
              have hOd : OL (wr.drewN (1 + j3)) w2.heap.size g3 n (F.stL n h b j new old) := OL.drewN HO.out _
              have hBd : Below w2.heap.size w2 (wr.drewN (1 + j3)) := below_drewN HB.out _
              have d1 : (wr.drewN (1 + j3)).cell? ⟨g3, x1, none⟩ = some (.int .u64 (u : Int)) := c1
              have dt : (wr.drewN (1 + j3)).cell? ⟨gt, q, none⟩ = some (.int .u64 (mt : Int)) := ct
              have f1 := hOd.frozen x1
              have CA := Lib.hid (HAD.out _ (BW.out _ hBd) u tv u1 hs1)
              have CS := Lib.hid (HSU.out _ (BW.out _ hBd) u tv u1 hs1)
              generalize (u + tv) % p = tp at *
              generalize (u + (p - tv % p)) % p = lw at *
              generalize wr.drewN (1 + j3) = W1 at *
              clear hS c1 c2 ct u1 hs1
              have P1 := Lib.hid fun q => OL.put (OL.drewN hOd q) x1 tp
              have HO2 := Lib.hid fun q => OL.put (OL.put (OL.drewN hOd q) x1 tp) x2 lw
              have HB2 := Lib.hid fun q => ((below_drewN hBd q).setCell (p := ⟨g3, x1, none⟩) hg3 (.int .u64 (tp : Int))).setCell (p := ⟨g3, x2, none⟩) hg3 (.int .u64 (lw : Int))
              clear hOd hBd
              with_reducible refine CA.out.now.mono ?_
              rintro e_ w_ ⟨rfl, j1, rfl⟩
              go_wp2_with fail
              with_reducible refine (Rd.go CS.out _).mono ?_
              rintro e_ w_ ⟨rfl, j2, rfl⟩
              have a1 : (W1.drewN (j1 + j2)).cell? ⟨g3, x1, none⟩ = some (.int .u64 (u : Int)) := d1
              have a2 : (W1.drewN (j1 + j2)).frozen? ⟨g3, x1, none⟩ = false := f1
              have hP := P1.out (j1 + j2)
              have a3 := HVV.out _ _ hP
              have a4 := hP.frozen x2
              go_wp2_with fail
              go_roundw
              case rel => exact ⟨j + 1, by omega, by go_num, by rw [← SET.out]; exact Lib.hid (HO2.out _), Lib.hid (HB2.out _)⟩
              case measure => simp [intOf]; omega
            · have hjh : j = h := by omega
              subst hjh
              have hOn := HO.out
              rw [NX.out] at hOn
              have g2 : decide ((j : Int) < (j : Int)) = false := decide_eq_false (by omega)
              go_wp2_with fail
              go_roundw
              case rel => exact ⟨b + 1, by omega, by rw [← HNB.out]; go_num, Lib.hid hOn, HB⟩
              case measure => simp [intOf]; omega
        · have hbe : b = st := by omega
          subst hbe
          have hbn : b * s = n := E2.out.symm
          have g1 : decide (((b * s : Nat) : Int) < (n : Int)) = false := decide_eq_false (by omega)
          have g1' : decide (b * s < n) = false := decide_eq_false (by omega)
          have hOn := HO.out
          rw [HFU.out b (by omega)] at hOn
          clear hbn
          have e5 : K - (k + 1) = K - (k + 1) := rfl
          generalize b * s = a at *
          go_wp2_with fail
          go_roundw
          case rel => exact ⟨k + 1, _, by omega, by rw [E9.out]; go_num, HN, Lib.hid hOn, HB⟩
          case measure => simp [intOf]; omega
    · have hkk : k = K := by omega
      subst hkk
      have hlen := HD.out.len
      have hlow := HD.out.low
      rw [hnn] at hlen hlow
      have BB := Lib.hid (BW.out _ HB.out)
      have CT := Lib.hid (HE.out wr BB.out (some ⟨g3, 0, none⟩) n ys HO.out.riD hlen (fun i hi => Nat.lt_trans (hlow i hi) hR))
      have DN := Lib.hid (HMAP.out ys (HSD.out ys HD.out))
      clear hlen hlow
      generalize 2 ^ (k + 1) = s at *
      have g0 : decide ((s : Int) ≤ (n : Int)) = false := decide_eq_false (by omega)
      have g0' : decide (s ≤ n) = false := decide_eq_false (by omega)
      go_wp2_with fail
      refine CT.out.mono ?_
      rintro e w4 ⟨g4, rfl, ho4, hb4⟩
      rw [DN.out] at ho4
      have HO4 := Lib.hid (ho4.mono BB.out.size)
      have B4 := Lib.hid (below_then BB.out BB.out.size hb4)
      clear ho4 hb4
      go_wp2_with fail
      go_ret2
      refine ⟨g4, rfl, ?_, B4.out⟩
      unfold OL
      rw [show ((List.range n).map fun m => invN n p * dftF p r (fun t => xs.getD t 0) n m % p).length = n by simp]
      exact HO4.out
end Go.Proofs.YtpkpadepccneeaaGreatDoor
