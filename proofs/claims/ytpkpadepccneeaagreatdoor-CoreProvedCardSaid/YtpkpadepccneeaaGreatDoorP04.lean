/- Plain numbers for math/bits.Div64: the words moved up, wraps that fall away. No condition. -/
import Derived.Test.YtpkpadepccneeaaGreatDoorP02
import Derived.Test.YtpkpadepccneeaaGreatDoorP01
import Derived.Lib.ItoaNum
import Derived.Lib.BitFns
namespace Go.Proofs.YtpkpadepccneeaaGreatDoor
open Go.RowKit
set_option linter.unusedVariables false
theorem and_low (x : Int) (h0 : 0 ≤ x) (h1 : x < 18446744073709551616) : bits .and .u64 x 4294967295 = x % 4294967296 := by
  obtain ⟨x, rfl⟩ := Int.eq_ofNat_of_zero_le h0
  rw [show (4294967295 : Int) = ((4294967295 : Nat) : Int) from rfl, u64_and_nat _ _ (by omega) (by decide), show (4294967295 : Nat) = 2 ^ 32 - 1 from rfl, Nat.and_two_pow_sub_one_eq_mod]
  rfl
/-- Words of a division, moved up so that the divisor's highest bit is set. -/
structure Sh (hi lo y : Int) (s Y U V : Int) : Prop where
  wy : IntKind.u64.wrap (y * 2 ^ s.toNat) = Y
  wu : bits .or .u64 (IntKind.u64.wrap (hi * 2 ^ s.toNat)) (lo / 2 ^ (64 - s).toNat) = U
  wv : IntKind.u64.wrap (lo * 2 ^ s.toNat) = V
  ok : 9223372036854775808 ≤ Y ∧ Y < 18446744073709551616 ∧ 0 ≤ U ∧ U < Y ∧ 0 ≤ V ∧ V < 18446744073709551616
  rest : (U * 18446744073709551616 + V) % Y / 2 ^ s.toNat = (hi * 18446744073709551616 + lo) % y
theorem sh_nat (hi lo y : Nat) (h2 : lo < 18446744073709551616) (h3 : hi < y) (h4 : y < 18446744073709551616) :
    Lib.bitLen y ≤ 64 ∧ 1 ≤ Lib.bitLen y ∧ ∃ Y U V, Sh hi lo y (64 - (Lib.bitLen y : Int)) Y U V := by
  obtain ⟨n1, n2, n3⟩ := Lib.bitLenAux_bounds 64 y (by omega) (by omega)
  have n4 := Lib.bitLen_le y 64 (by decide) (by omega)
  have e : Lib.bitLenAux 64 y = Lib.bitLen y := rfl
  rw [e] at n1 n2 n3
  generalize Lib.bitLen y = n at *
  refine ⟨n4, n1, ?_⟩
  have t1 : ((64 : Int) - (n : Int)).toNat = 64 - n := by omega
  have t2 : ((64 : Int) - (64 - (n : Int))).toNat = n := by omega
  obtain ⟨s, hs⟩ : ∃ s, s = 64 - n := ⟨_, rfl⟩
  have hsn : 2 ^ s * 2 ^ n = 18446744073709551616 := by rw [← Nat.pow_add, show s + n = 64 by omega]
  have hp : 0 < 2 ^ s := Nat.pow_pos (by decide)
  have hpn : 0 < 2 ^ n := Nat.pow_pos (by decide)
  have hY1 : y * 2 ^ s < 18446744073709551616 := by
    rw [← hsn, Nat.mul_comm]; exact Nat.mul_lt_mul_of_pos_left n3 hp
  have hY0 : 9223372036854775808 ≤ y * 2 ^ s := by
    have h : 2 ^ (n - 1) * 2 ^ s ≤ y * 2 ^ s := Nat.mul_le_mul_right _ n2
    rw [← Nat.pow_add, show n - 1 + s = 63 by omega] at h
    exact h
  have hlo : lo / 2 ^ n < 2 ^ s := Nat.div_lt_of_lt_mul (by rw [Nat.mul_comm, hsn]; exact h2)
  have hU1 : (hi + 1) * 2 ^ s ≤ y * 2 ^ s := Nat.mul_le_mul_right _ (by omega)
  rw [Nat.add_mul, Nat.one_mul] at hU1
  have hV : lo * 2 ^ s = lo / 2 ^ n * 18446744073709551616 + lo * 2 ^ s % 18446744073709551616 := by
    have hd := Nat.div_add_mod (lo * 2 ^ s) 18446744073709551616
    have hq : lo * 2 ^ s / 18446744073709551616 = lo / 2 ^ n := by rw [← hsn, Nat.mul_comm lo, Nat.mul_div_mul_left _ _ hp]
    omega
  have hN : (hi * 2 ^ s + lo / 2 ^ n) * 18446744073709551616 + lo * 2 ^ s % 18446744073709551616 = (hi * 18446744073709551616 + lo) * 2 ^ s := by
    rw [Nat.add_mul, Nat.add_mul, Nat.mul_right_comm]
    omega
  refine ⟨((y * 2 ^ s : Nat) : Int), ((hi * 2 ^ s + lo / 2 ^ n : Nat) : Int), ((lo * 2 ^ s % 18446744073709551616 : Nat) : Int), ?_, ?_, ?_, ?_, ?_⟩
  · rw [t1, ← hs, IntKind.wrap_u64]
    have : ((y : Int) * 2 ^ s) = ((y * 2 ^ s : Nat) : Int) := by push_cast; rfl
    rw [this]; omega
  · rw [t1, t2, ← hs, IntKind.wrap_u64]
    have a : ((hi : Int) * 2 ^ s) % 18446744073709551616 = ((hi * 2 ^ s : Nat) : Int) := by
      have : ((hi : Int) * 2 ^ s) = ((hi * 2 ^ s : Nat) : Int) := by push_cast; rfl
      rw [this]; omega
    have b : (lo : Int) / 2 ^ n = ((lo / 2 ^ n : Nat) : Int) := by push_cast; rfl
    rw [a, b, u64_or_nat _ _ (by omega) (by omega)]
    congr 1
    rw [Nat.mul_comm hi, ← Nat.two_pow_add_eq_or_of_lt hlo]
  · rw [t1, ← hs, IntKind.wrap_u64, Int.natCast_emod, Int.natCast_mul, Int.natCast_pow]; rfl
  · have hm : lo * 2 ^ s % 18446744073709551616 < 18446744073709551616 := Nat.mod_lt _ (by decide)
    omega
  · rw [t1, ← hs]
    have e1 : (((hi * 2 ^ s + lo / 2 ^ n : Nat) : Int) * 18446744073709551616 + ((lo * 2 ^ s % 18446744073709551616 : Nat) : Int)) = (((hi * 18446744073709551616 + lo) * 2 ^ s : Nat) : Int) := by
      rw [← hN, Int.natCast_add (_ * 18446744073709551616), Int.natCast_mul (hi * 2 ^ s + lo / 2 ^ n)]; rfl
    rw [e1, ← Int.natCast_emod, Nat.mul_mod_mul_right, show ((2 : Int) ^ s) = ((2 ^ s : Nat) : Int) by push_cast; rfl, ← Int.natCast_ediv, Nat.mul_div_cancel _ hp, Int.natCast_emod, Int.natCast_add, Int.natCast_mul]; rfl
theorem w_small {x : Int} (h0 : 0 ≤ x) (h1 : x < 18446744073709551616) : IntKind.u64.wrap x = x := by rw [IntKind.wrap_u64]; exact Int.emod_eq_of_lt h0 h1
theorem w_rest {a b c d : Int} (h0 : 0 ≤ a * 4294967296 + b - c * d) (h1 : a * 4294967296 + b - c * d < 18446744073709551616) :
    IntKind.u64.wrap (IntKind.u64.wrap (IntKind.u64.wrap (a * 4294967296) + b) - IntKind.u64.wrap (c * d)) = a * 4294967296 + b - c * d := by
  simp only [IntKind.wrap_u64]
  generalize c * d = x at *
  omega
/-- The two digits' rests are the whole's. -/
theorem two_rests (U v1 v0 Y : Int) : ((U * 4294967296 + v1) % Y * 4294967296 + v0) % Y = (U * 18446744073709551616 + (v1 * 4294967296 + v0)) % Y := by
  rw [Int.add_emod, Int.mul_emod, Int.emod_emod, ← Int.mul_emod, ← Int.add_emod]
  congr 1
  omega
end Go.Proofs.YtpkpadepccneeaaGreatDoor
