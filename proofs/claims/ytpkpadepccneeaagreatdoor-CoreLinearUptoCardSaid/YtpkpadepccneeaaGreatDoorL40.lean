/- The walks of the reference's Order and Generator (that they end), at a prime up to 65536. No condition. -/
import Derived.Test.YtpkpadepccneeaaGreatDoorL38
import Derived.Test.YtpkpadepccneeaaGreatDoorL39
namespace Go.Proofs.YtpkpadepccneeaaGreatDoor
open Go.RowKit
set_option linter.unusedVariables false
set_option linter.unusedSimpArgs false
set_option maxHeartbeats 1000000 in
theorem rOrder_any (g p : Nat) (hp : Nt.Prime p) (h : p ≤ 65536) (h0 : 0 < g) (hg : g < p) (w : World) : Calls Tryz.prog 117 #[.int .u64 g, .int .u64 p] w fun e w' => (∃ m : Nat, e = .returned (.int .u64 m)) ∧ w = w' := by
  have hp1 := hp.1
  obtain ⟨k, hk0, hkp, hk1⟩ := Nt.pow_period hp (g := g) (by rw [Nat.mod_eq_of_lt hg]; omega)
  have HK := Lib.hid hk1
  have e1 : (g : Int) % p = ((g % p : Nat) : Int) := (Int.natCast_emod _ _).symm
  have e2 : g % p = g ^ 1 % p := by rw [Nat.pow_one]
  have HLT := Lib.hid fun (m : Nat) => (show g ^ m % p < p from Nat.mod_lt _ hp.pos)
  have q4 : ¬ (p : Int) = 0 := by omega
  have q4' : ¬ p = 0 := by omega
  have E2 := Lib.hid e2
  have HST := Lib.hid fun (m : Nat) => (show g ^ m % p * g % p = g ^ (m + 1) % p from by rw [Nat.pow_succ, Nat.mod_mul_mod])
  clear hk1 e2
  go_enter Tryz.func117, Tryz.ntmps117
  go_wp2_with fail
  go_loopw [5, 6] (fun n x wr => ∃ m : Nat, n = .int .u64 m ∧ x = .int .u64 ((g ^ m % p : Nat) : Int) ∧ 1 ≤ m ∧ m ≤ k ∧ w = wr) (fun n _ _ => k - (intOf n).toNat)
  case atStart => exact ⟨1, rfl, by first | rw [← E2.out]; rfl | rw [← E2.out]; exact e1 ▸ rfl, by omega, by omega, rfl⟩
  case round =>
    obtain ⟨m, rfl, rfl, hm1, hmk, rfl⟩ := hrel
    have hx := HLT.out m
    have hs := HST.out m
    by_cases h1 : g ^ m % p = 1
    · rw [h1]
      go_wp2_with fail
      go_ret
      exact ⟨⟨m, rfl⟩, rfl⟩
    · have hmk2 : m < k := by
        by_cases e : m = k
        · exact absurd (e ▸ HK.out) h1
        · omega
      have hw : IntKind.u64.wrap (((g ^ m % p : Nat) : Int) * (g : Int)) = ((g ^ m % p * g : Nat) : Int) := by
        have : g ^ m % p * g ≤ 65536 * 65536 := Nat.mul_le_mul (Nat.le_of_lt (Nat.lt_of_lt_of_le hx h)) (Nat.le_of_lt (Nat.lt_of_lt_of_le hg h))
        rw [← Int.natCast_mul]
        exact w_small (Int.natCast_nonneg _) (by omega)
      have hr : ((g ^ m % p * g : Nat) : Int) % (p : Int) = ((g ^ (m + 1) % p : Nat) : Int) := by rw [← Int.natCast_emod, hs]
      have q1 : (((g ^ m % p : Nat) : Int) != 1) = true := bne_iff_ne.2 (by omega)
      have q1' : (((g ^ m % p : Nat) : Int) == 1) = false := beq_eq_false_iff_ne.2 (by omega)
      clear hs h1
      generalize g ^ m % p * g = s at *
      generalize hz : g ^ (m + 1) % p = z at *
      generalize g ^ m % p = x at *
      have HZ := Lib.hid hz
      clear hz
      go_wp2_with fail
      go_roundw
      case rel => exact ⟨m + 1, by go_num, by rw [HZ.out, hr], by omega, by omega, by trivial⟩
      case measure => simp [intOf]; omega
end Go.Proofs.YtpkpadepccneeaaGreatDoor
