/- Plain mathematics of chapter 9's Bits: math/bits.Reverse64 as shifts and masks turns the 64 bits about; the lowest bits turned about, one by one. No program in it. No condition. -/
import Derived.Laws.BitsAllLaws
import Derived.RowKit
import Derived.Test.YtmofdjddjkjogaaDMath
namespace Go.Proofs.Ytmofdjddjkjogaa.D
open Go.RowKit

/-- One step: neighbours of s bits change places. -/
def swp (s m x : Nat) : Nat := ((x / 2 ^ s) &&& m) ||| (((x &&& m) * 2 ^ s) % 2 ^ 64)
def swpLast (x : Nat) : Nat := (x / 2 ^ 32) ||| ((x * 2 ^ 32) % 2 ^ 64)
/-- What makes a mask the right one. -/
def maskOk (s m : Nat) : Prop := ∀ i, i < 64 → (i ^^^ s) < 64 ∧ (if m.testBit i then (i ^^^ s = s + i ∧ (s ≤ i → m.testBit (i - s) = false)) else (s ≤ i ∧ m.testBit (i - s) = true ∧ i ^^^ s = i - s))
theorem swp_lt {s m x : Nat} (hm : m < 2 ^ 64) : swp s m x < 2 ^ 64 := by
  unfold swp
  exact Nat.or_lt_two_pow (Nat.and_lt_two_pow _ hm) (Nat.mod_lt _ (by decide))
theorem swpLast_lt {x : Nat} (hx : x < 2 ^ 64) : swpLast x < 2 ^ 64 := by
  unfold swpLast
  exact Nat.or_lt_two_pow (Nat.lt_of_le_of_lt (Nat.div_le_self _ _) hx) (Nat.mod_lt _ (by decide))
theorem swp_bit {s m x i : Nat} (hm : maskOk s m) (hi : i < 64) : (swp s m x).testBit i = x.testBit (i ^^^ s) := by
  unfold swp
  have h := (hm i hi).2
  rw [Nat.testBit_or, Nat.testBit_and, Nat.testBit_mod_two_pow, Nat.testBit_mul_two_pow, Nat.testBit_div_two_pow, Nat.testBit_and]
  cases hb : m.testBit i with
  | true =>
    rw [hb] at h
    obtain ⟨h1, h2⟩ := h
    rw [h1]
    by_cases hs : s ≤ i
    · simp [hi, hs, h2 hs, Nat.add_comm]
    · simp [hi, hs, Nat.add_comm]
  | false =>
    rw [hb] at h
    obtain ⟨h1, h2, h3⟩ := h
    rw [h3]
    simp [hi, h1, h2]
theorem bit_high {x i : Nat} (hx : x < 2 ^ 64) (hi : 64 ≤ i) : x.testBit i = false := Nat.testBit_lt_two_pow (Nat.lt_of_lt_of_le hx (Nat.pow_le_pow_right (by decide) hi))
theorem swpLast_bit {x i : Nat} (hx : x < 2 ^ 64) (hi : i < 64) : (swpLast x).testBit i = x.testBit (i ^^^ 32) := by
  unfold swpLast
  have hc : ∀ j, j < 64 → (if j < 32 then j ^^^ 32 = 32 + j else j ^^^ 32 = j - 32) := by decide +kernel
  have h := hc i hi
  rw [Nat.testBit_or, Nat.testBit_mod_two_pow, Nat.testBit_mul_two_pow, Nat.testBit_div_two_pow]
  by_cases h32 : i < 32
  · rw [if_pos h32] at h
    rw [h]
    simp [hi, show ¬ 32 ≤ i by omega, Nat.add_comm]
  · rw [if_neg h32] at h
    rw [h, bit_high hx (show 64 ≤ i + 32 by omega)]
    simp [hi, show 32 ≤ i by omega]
theorem mask1 : maskOk 1 6148914691236517205 := by unfold maskOk; decide +kernel
theorem mask2 : maskOk 2 3689348814741910323 := by unfold maskOk; decide +kernel
theorem mask4 : maskOk 4 1085102592571150095 := by unfold maskOk; decide +kernel
theorem mask8 : maskOk 8 71777214294589695 := by unfold maskOk; decide +kernel
theorem mask16 : maskOk 16 281470681808895 := by unfold maskOk; decide +kernel
def revBytes (x : Nat) : Nat := swpLast (swp 16 281470681808895 (swp 8 71777214294589695 x))
def rev64 (x : Nat) : Nat := revBytes (swp 4 1085102592571150095 (swp 2 3689348814741910323 (swp 1 6148914691236517205 x)))
theorem revBytes_lt (x : Nat) : revBytes x < 2 ^ 64 := swpLast_lt (swp_lt (by decide))
theorem rev64_lt (x : Nat) : rev64 x < 2 ^ 64 := revBytes_lt _
theorem rev64_bit {x i : Nat} (hi : i < 64) : (rev64 x).testBit i = x.testBit (63 - i) := by
  have hc : ∀ j, j < 64 → j ^^^ 32 < 64 ∧ j ^^^ 32 ^^^ 16 < 64 ∧ j ^^^ 32 ^^^ 16 ^^^ 8 < 64 ∧ j ^^^ 32 ^^^ 16 ^^^ 8 ^^^ 4 < 64 ∧ j ^^^ 32 ^^^ 16 ^^^ 8 ^^^ 4 ^^^ 2 < 64 ∧ j ^^^ 32 ^^^ 16 ^^^ 8 ^^^ 4 ^^^ 2 ^^^ 1 = 63 - j := by decide +kernel
  obtain ⟨h1, h2, h3, h4, h5, h6⟩ := hc i hi
  unfold rev64 revBytes
  rw [swpLast_bit (swp_lt (by decide)) hi, swp_bit mask16 h1, swp_bit mask8 h2, swp_bit mask4 h3, swp_bit mask2 h4, swp_bit mask1 h5, h6]

/-- The lowest bits, so many, turned about. -/
def R : Nat → Nat → Nat
  | 0, _ => 0
  | n + 1, x => 2 ^ n * (x % 2) + R n (x / 2)
theorem R_lt : ∀ (n x : Nat), R n x < 2 ^ n
  | 0, _ => by simp [R]
  | n + 1, x => by
    have ih := R_lt n (x / 2)
    have h2 : x % 2 ≤ 1 := by omega
    have h3 : 2 ^ n * (x % 2) ≤ 2 ^ n * 1 := Nat.mul_le_mul_left _ h2
    have h4 : 2 ^ (n + 1) = 2 ^ n + 2 ^ n := by rw [Nat.pow_succ]; omega
    simp only [R]
    omega
theorem R_bit : ∀ (n x j : Nat), (R n x).testBit j = (decide (j < n) && x.testBit (n - 1 - j))
  | 0, x, j => by simp [R]
  | n + 1, x, j => by
    simp only [R]
    rw [Nat.testBit_two_pow_mul_add _ (R_lt n (x / 2))]
    by_cases h : j < n
    · rw [if_pos h, R_bit n (x / 2) j, Nat.testBit_div_two]
      simp [h, show j < n + 1 by omega]
      congr 1
      omega
    · rw [if_neg h]
      by_cases h2 : j = n
      · subst h2
        have e : j - j = 0 := by omega
        rw [e]
        simp [Nat.testBit_zero]
      · have e : decide (j < n + 1) = false := by simp; omega
        rw [e, Bool.false_and]
        exact Nat.testBit_lt_two_pow (Nat.lt_of_lt_of_le (Nat.mod_lt _ (by decide)) (Nat.le_trans (show 2 ≤ 2 ^ 1 by decide) (Nat.pow_le_pow_right (by decide) (by omega))))
theorem rev64_R {k x : Nat} (h1 : 1 ≤ k) (h2 : k ≤ 64) : rev64 x / 2 ^ (64 - k) = R k x := by
  apply Nat.eq_of_testBit_eq
  intro j
  rw [Nat.testBit_div_two_pow, R_bit]
  by_cases h : j < k
  · rw [rev64_bit (by omega)]
    simp [h]
    congr 1
    omega
  · rw [bit_high (rev64_lt x) (by omega)]
    simp [h]
theorem R_R (k x : Nat) : R k (R k x) = x % 2 ^ k := by
  apply Nat.eq_of_testBit_eq
  intro j
  rw [R_bit, R_bit, Nat.testBit_mod_two_pow]
  by_cases h : j < k
  · simp only [h, decide_true, Bool.true_and]
    have e : k - 1 - j < k := by omega
    rw [show k - 1 - (k - 1 - j) = j by omega]
    simp [e]
  · simp [h]
/-- As the reference reckons it. -/
def revL : Nat → Nat → Nat → Nat
  | 0, out, _ => out
  | n + 1, out, x => revL n (2 * out + x % 2) (x / 2)
theorem revL_R : ∀ (n out x : Nat), revL n out x = 2 ^ n * out + R n x
  | 0, out, x => by simp [revL, R]
  | n + 1, out, x => by
    simp only [revL, R]
    rw [revL_R n, Nat.mul_add, Nat.pow_succ, Nat.mul_assoc, Nat.add_assoc]
theorem turnL_two : ∀ (n : Nat) (out x : Nat), turnL (out : Int) (x : Int) (List.replicate n 2) = (revL n out x : Nat)
  | 0, out, x => rfl
  | n + 1, out, x => by
    rw [List.replicate_succ]
    simp only [turnL, revL]
    rw [← turnL_two n]
    congr 1
    omega
theorem prod_two : ∀ n : Nat, prod (List.replicate n 2) = (2 ^ n : Nat)
  | 0 => rfl
  | n + 1 => by
    rw [List.replicate_succ]
    simp only [prod]
    rw [prod_two n, Nat.pow_succ]
    omega
theorem Ok_two {n : Nat} (h : n ≤ 12) : Ok (List.replicate n 2) := by
  refine ⟨by simpa using h, fun r hr => ?_, ?_⟩
  · simp at hr; omega
  · rw [prod_two]
    have : 2 ^ n ≤ 2 ^ 12 := Nat.pow_le_pow_right (by decide) h
    omega

/-! ### as Go reckons them -/
theorem go_swp (s m x : Nat) (hx : x < 18446744073709551616) (hm : m < 18446744073709551616) (p : Nat) (hp : p = 2 ^ s) :
    bits .or .u64 (bits .and .u64 ((x : Int) / (p : Int)) (m : Int)) (IntKind.u64.wrap (bits .and .u64 (x : Int) (m : Int) * (p : Int))) = ((swp s m x : Nat) : Int) := by
  have hd : x / p < 18446744073709551616 := Nat.lt_of_le_of_lt (Nat.div_le_self _ _) hx
  have e1 : ((x : Int) / (p : Int)) = ((x / p : Nat) : Int) := by simp
  rw [e1, u64_and_nat _ _ hd hm, u64_and_nat _ _ hx hm, IntKind.wrap_u64]
  have e2 : (((x &&& m : Nat) : Int) * (p : Int)) % 18446744073709551616 = (((x &&& m) * p % 18446744073709551616 : Nat) : Int) := by
    rw [Int.natCast_emod, Int.natCast_mul]; rfl
  rw [e2, u64_or_nat _ _ (Nat.lt_of_le_of_lt Nat.and_le_left hd) (Nat.mod_lt _ (by decide)), hp]
  rfl
theorem go_swpLast (x : Nat) (hx : x < 18446744073709551616) :
    bits .or .u64 ((x : Int) / 4294967296) (IntKind.u64.wrap ((x : Int) * 4294967296)) = ((swpLast x : Nat) : Int) := by
  have e1 : ((x : Int) / 4294967296) = ((x / 4294967296 : Nat) : Int) := by omega
  have e2 : ((x : Int) * 4294967296) % 18446744073709551616 = ((x * 4294967296 % 18446744073709551616 : Nat) : Int) := by omega
  rw [IntKind.wrap_u64, e1, e2, u64_or_nat _ _ (by omega) (by omega)]
  rfl
end Go.Proofs.Ytmofdjddjkjogaa.D
