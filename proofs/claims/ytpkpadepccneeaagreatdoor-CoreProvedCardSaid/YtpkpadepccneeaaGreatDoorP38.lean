/- The walks of modular.Inv and field.Inv of numbers that something makes 1 with. No condition. -/
import Derived.Test.YtpkpadepccneeaaGreatDoorP37
import Derived.Test.YtpkpadepccneeaaGreatDoorP13
import Derived.Test.YtpkpadepccneeaaGreatDoorP12
namespace Go.Proofs.YtpkpadepccneeaaGreatDoor
open Go.RowKit
set_option linter.unusedVariables false
set_option linter.unusedSimpArgs false
set_option maxHeartbeats 1000000 in
theorem dInv_rd (a m : Nat) (ha : a < Mg.R) (hm : 2 ≤ m) (hmR : m < Mg.R) (hg : Nat.gcd m a = 1) (w : World) : Rd 232 #[.int .u64 a, .int .u64 m] w (.tuple #[.int .u64 ((invN a m : Nat) : Int), .bool true]) := by
  refine Rd.of_drawn fun n0 => ?_
  have g0 : decide ((m : Int) < 2) = false := decide_eq_false (by omega)
  have g0' : decide (m < 2) = false := decide_eq_false (by omega)
  have e1 : (a : Int) % m = ((a % m : Nat) : Int) := (Int.natCast_emod a m).symm
  have h0 : ¬ (m : Int) = 0 := by omega
  have HS := Lib.hid (Euc.start (a := a) hm)
  have HC := Lib.hid fun (b c : Nat) (hb : b < Mg.R) (hc : c < Mg.R) => dMul_rd b c m hb hc (by omega) hmR w
  have HD := Lib.hid fun (b c : Nat) (hb : b < Mg.R) (hc : c < Mg.R) => dSub_rd b c m hb hc (by omega) hmR w
  have HG := Lib.hid fun (r t s : Nat) (h : Euc a m r 0 t s) => h.one (h.done.trans hg)
  have HG1 := Lib.hid fun (r t s : Nat) (h : Euc a m r 0 t s) => h.done.trans hg
  clear hg
  generalize hx : a % m = x at *
  clear hx
  go_enter Tryz.func232, Tryz.ntmps232
  go_wp2_with fail
  go_quiet (fail)
  go_wp2_with fail
  go_loopw [6, 7, 8, 9] (fun r n t s wr => ∃ (b c d e q : Nat), r = .int .u64 (b : Int) ∧ n = .int .u64 (c : Int) ∧ t = .int .u64 (d : Int) ∧ s = .int .u64 (e : Int) ∧ wr = w.drewN q ∧ n0 ≤ q ∧ Hid (Euc a m b c d e)) (fun _ n _ _ _ => (intOf n).toNat)
  case atStart => exact ⟨m, x, 0, 1, _, rfl, by rw [e1], rfl, rfl, World.drewN_drewN .., Nat.le_add_right _ _, HS⟩
  case round =>
    clear e1 HS
    obtain ⟨r, n, t, s, q, rfl, rfl, rfl, rfl, rfl, hq, HE⟩ := hrel
    by_cases hn : n = 0
    · subst hn
      have HR := Lib.hid (invN_eq (HG.out r t s HE.out))
      have HR1 := HG1.out r t s HE.out
      subst HR1
      go_wp2_with fail
      go_ret2
      exact ⟨by rw [HR.out]; rfl, drawn_le hq⟩
    · have HN := Lib.hid (HE.out.step (by omega : 0 < n))
      have g1 : decide (0 < n) = true := decide_eq_true (by omega)
      have hr1 := HE.out.rm
      have hr2 := HE.out.nr
      have hr3 := HE.out.tm
      have hr4 := HE.out.sm
      have hn0 : ¬ (n : Int) = 0 := by omega
      have e2 : (r : Int) / n = ((r / n : Nat) : Int) := (Int.natCast_ediv r n).symm
      have hqr : r / n ≤ r := Nat.div_le_self _ _
      have h3 : r / n * n + r % n = r := by rw [Nat.mul_comm]; exact Nat.div_add_mod r n
      have h4 := Nat.mod_lt r (show 0 < n by omega)
      have C1 := HC.out (r / n) s (by simp only [Mg.R] at *; omega) (by simp only [Mg.R] at *; omega)
      have C2 := HD.out t (r / n * s % m) (by simp only [Mg.R] at *; omega) (Nat.lt_trans (Nat.mod_lt _ (by omega)) hmR)
      have e3 : IntKind.u64.wrap ((r : Int) - IntKind.u64.wrap (((r / n : Nat) : Int) * n)) = ((r % n : Nat) : Int) := by
        have e4 : ((r / n : Nat) : Int) * n = ((r / n * n : Nat) : Int) := (Int.natCast_mul _ _).symm
        rw [e4, IntKind.wrap_u64, IntKind.wrap_u64]
        simp only [Mg.R] at hmR
        omega
      have hm' : r / n < Mg.R := by omega
      have e5 : IntKind.u64.wrap ((r / n : Nat) : Int) = ((r / n : Nat) : Int) := w_small (Int.natCast_nonneg _) (by simp only [Mg.R] at hm'; omega)
      clear hm'
      clear h3 hr1 hr2 hr3 hr4 hqr
      generalize r / n * s % m = z1 at *
      generalize r / n = z2 at *
      generalize r % n = z3 at *
      generalize (t + (m - z1 % m)) % m = z4 at *
      go_wp2_with fail
      with_reducible refine (Rd.go (C1) _).mono ?_
      rintro e_ w_ ⟨rfl, k1, rfl⟩
      go_wp2_with fail
      with_reducible refine (Rd.go (C2) _).mono ?_
      rintro e_ w_ ⟨rfl, k2, rfl⟩
      go_wp2_with fail
      go_roundw
      case rel => exact ⟨n, z3, s, z4, _, rfl, rfl, rfl, rfl, rfl, by omega, HN⟩
      case measure => exact h4
theorem fInv_rd (gf p g a : Nat) (w : World) (hf : FD w gf p g) (ha : a < Mg.R) (hg : Nat.gcd p a = 1) : Rd 172 #[.pointer (some ⟨gf, 0, none⟩), .int .u64 a] w (.int .u64 ((invN a p : Nat) : Int)) := by
  refine Rd.of_drawn fun q => ?_
  have C1 := fP_rd gf p g w hf
  have C2 := dInv_rd a p ha (by have := hf.low; omega) (by have := hf.high; simp only [Mg.R]; omega) hg w
  clear hf hg
  generalize invN a p = r at *
  go_enter Tryz.func172, Tryz.ntmps172
  go_wp2_with fail
  with_reducible refine (Rd.go (C1) _).mono ?_
  rintro e_ w_ ⟨rfl, k1, rfl⟩
  go_wp2_with fail
  with_reducible refine (Rd.go (C2) _).mono ?_
  rintro e_ w_ ⟨rfl, k2, rfl⟩
  go_wp2_with fail
  go_ret
  exact ⟨rfl, drawn_le (by omega)⟩
end Go.Proofs.YtpkpadepccneeaaGreatDoor
