/- A source of a field among a law's arguments, opened. No condition. -/
import Derived.Test.YtpkpadepccneeaaGreatDoorL33
import Derived.Lib.SmallJoins
import Derived.Test.YtpkpadepccneeaaGreatDoorL07
import Derived.Test.YtpkpadepccneeaaGreatDoorL01
namespace Go.Proofs.YtpkpadepccneeaaGreatDoor
set_option linter.unusedVariables false
set_option linter.unusedSimpArgs false
open Go.Joins Go.ChangeShapes Go.WideShapes Go.RowKit Go.Deep
set_option maxRecDepth 100000 in
theorem open_source {H : Type} {enc : TypeId × Value → H} {w : World} {base b0 : Nat} {spare : Nat → Bool} {held : Bool} {r : Reach} {v : Value} {d : DataW H} {p : List MemPlace}
    (hv : Value.okWide Tryz.prog w r b0 25 v) (h : DataW.Trod enc Tryz.prog w base spare held 25 v d p) :
    ∃ (kind k : Int) (P : Nat) (A : Option Addr) (l : List Ent) (c : Nat), v = .agg #[.int .i64 kind, .int .i64 k, .int .u64 (P : Int), .slice A l.length c] ∧ (-9223372036854775808 ≤ kind ∧ kind ≤ 9223372036854775807) ∧ (-9223372036854775808 ≤ k ∧ k ≤ 9223372036854775807) ∧ P < Mg.R ∧ l.length ≤ c ∧ c ≤ maxLen ∧ EI w A l ∧ Oks l := by
  obtain ⟨v0, v1, v2, v3, y0, y1, y2, y3, n, rfl, _, _, t0, t1, t2, t3⟩ := open_agg4 Tryz.underlying25 (by kernel_rfl) (by kernel_rfl) hv h
  obtain ⟨x0, e0, _, w0⟩ := DataW.trod_int Tryz.underlying3 t0
  obtain ⟨x1, e1, _, w1⟩ := DataW.trod_int Tryz.underlying3 t1
  obtain ⟨x2, e2, _, w2⟩ := DataW.trod_int Tryz.underlying22 t2
  obtain ⟨A, l, c, rfl, h1, h2, h3, h4⟩ := open_ents t3
  simp at e0 e1 e2
  subst e0 e1 e2
  obtain ⟨P, rfl, hP⟩ := wf_u64 w2
  exact ⟨x0, x1, P, A, l, c, rfl, wf_i64 w0, wf_i64 w1, hP, h1, h2, h3, h4⟩
end Go.Proofs.YtpkpadepccneeaaGreatDoor

/- The walks of the reference's Prime (up to 65536) and Odd: just the odd primes up to 65536. No condition. -/
namespace Go.Proofs.YtpkpadepccneeaaGreatDoor
open Go.RowKit
set_option linter.unusedVariables false
set_option linter.unusedSimpArgs false
theorem prime_of_trials {n d : Nat} (h2 : 2 ≤ n) (hd : ∀ e, 2 ≤ e → e < d → n % e ≠ 0) (hdd : n < d * d) : Nt.Prime n := by
  refine ⟨by omega, fun e he => ?_⟩
  obtain ⟨f, hf⟩ := he
  rcases Nat.eq_zero_or_pos e with rfl | he0
  · rw [Nat.zero_mul] at hf; omega
  rcases Nat.eq_zero_or_pos f with rfl | hf0
  · rw [Nat.mul_zero] at hf; omega
  by_cases e1 : e = 1
  · exact .inl e1
  by_cases f1 : f = 1
  · subst f1; exact .inr (by omega)
  exfalso
  have h1 : d ≤ e := Nat.le_of_not_lt fun h => hd e (by omega) h (by rw [hf]; exact Nat.mul_mod_right e f)
  have h3 : d ≤ f := Nat.le_of_not_lt fun h => hd f (by omega) h (by rw [hf]; exact Nat.mul_mod_left e f)
  have := Nat.mul_le_mul h1 h3
  omega
theorem not_prime_of {n d : Nat} (h2 : 2 ≤ d) (h : d * d ≤ n) (h0 : n % d = 0) : ¬ Nt.Prime n := fun hp => by
  rcases hp.2 d (Nat.dvd_of_mod_eq_zero h0) with e | e
  · omega
  · subst e
    have : d * 2 ≤ d * d := Nat.mul_le_mul_left d h2
    omega
open Classical in
noncomputable def primeB (n : Nat) : Bool := decide (Nt.Prime n)
theorem primeB_yes {n : Nat} (h : Nt.Prime n) : primeB n = true := by unfold primeB; simpa using h
theorem primeB_no {n : Nat} (h : ¬ Nt.Prime n) : primeB n = false := by unfold primeB; simpa using h
theorem primeB_iff {n : Nat} : primeB n = true ↔ Nt.Prime n := by unfold primeB; simp
set_option maxHeartbeats 1000000 in
theorem rPrime_any (n : Nat) (h2 : 2 ≤ n) (h : n ≤ 65536) (w : World) : Calls Tryz.prog 116 #[.int .u64 n] w fun e w' => e = .returned (.bool (primeB n)) ∧ w = w' := by
  have HY := Lib.hid fun d (hd : ∀ e, 2 ≤ e → e < d → n % e ≠ 0) (hdd : n < d * d) => (show primeB n = true from primeB_yes (prime_of_trials h2 hd hdd))
  have HN := Lib.hid fun d (hd : 2 ≤ d) (h : d * d ≤ n) (h0 : n % d = 0) => (show primeB n = false from primeB_no (not_prime_of hd h h0))
  have g0 : decide ((n : Int) < 2) = false := decide_eq_false (by omega)
  have g0' : decide (n < 2) = false := decide_eq_false (by omega)
  have g1 : decide ((4294967296 : Int) < (n : Int)) = false := decide_eq_false (by omega)
  have g1' : decide (4294967296 < n) = false := decide_eq_false (by omega)
  go_enter Tryz.func116, Tryz.ntmps116
  go_wp2_with fail
  go_loopw [3] (fun v wr => ∃ d : Nat, v = .int .u64 d ∧ 2 ≤ d ∧ d ≤ 257 ∧ w = wr ∧ Hid (∀ e, 2 ≤ e → e < d → n % e ≠ 0)) (fun v _ => 300 - (intOf v).toNat)
  case atStart => exact ⟨2, rfl, by omega, by omega, rfl, Lib.hid (fun e h1 h2 => absurd h2 (by omega))⟩
  case round =>
    obtain ⟨d, rfl, hd2, hd3, rfl, HD⟩ := hrel
    have eDD : IntKind.u64.wrap ((d : Int) * d) = ((d * d : Nat) : Int) := by
      have h : d * d ≤ 257 * 257 := Nat.mul_le_mul hd3 hd3
      rw [← Int.natCast_mul]
      exact w_small (Int.natCast_nonneg _) (by omega)
    by_cases hle : d * d ≤ n
    · have hd4 : d ≤ 256 := by
        by_cases h5 : d ≤ 256
        · exact h5
        · have : 257 * 257 ≤ d * d := Nat.mul_le_mul (by omega) (by omega)
          omega
      have q1 : decide (((d * d : Nat) : Int) ≤ (n : Int)) = true := decide_eq_true (by omega)
      have q1' : decide (d * d ≤ n) = true := decide_eq_true hle
      have q3 : (n : Int) % d = ((n % d : Nat) : Int) := (Int.natCast_emod _ _).symm
      have q4 : ¬ (d : Int) = 0 := by omega
      have q4' : ¬ d = 0 := by omega
      by_cases h0 : n % d = 0
      · have HG := Lib.hid (HN.out d hd2 hle h0)
        clear hle
        generalize d * d = s at *
        generalize n % d = r at *
        subst h0
        go_wp2_with fail
        go_ret
        exact ⟨by rw [HG.out]; rfl, rfl⟩
      · have HD2 := Lib.hid (show ∀ e, 2 ≤ e → e < d + 1 → n % e ≠ 0 from fun e h1 h5 => by
          by_cases e1 : e = d
          · subst e1; exact h0
          · exact HD.out e h1 (by omega))
        have q5 : (((n % d : Nat) : Int) == 0) = false := beq_eq_false_iff_ne.2 (by omega)
        clear hle
        generalize d * d = s at *
        generalize n % d = r at *
        go_wp2_with fail
        go_roundw
        case rel => exact ⟨d + 1, by go_num, by omega, by omega, by trivial, HD2⟩
        case measure => simp [intOf]; omega
    · have HG := Lib.hid (HY.out d HD.out (by omega))
      have q1 : decide (((d * d : Nat) : Int) ≤ (n : Int)) = false := decide_eq_false (by omega)
      have q1' : decide (d * d ≤ n) = false := decide_eq_false hle
      clear hle
      generalize d * d = s at *
      go_wp2_with fail
      go_ret
      exact ⟨by rw [HG.out]; rfl, rfl⟩
/-- An odd prime up to 65536. -/
noncomputable def oddP (p : Nat) : Bool := decide (2 < p) && decide (p ≤ 65536) && primeB p
theorem rOdd_any (p : Nat) (w : World) : Calls Tryz.prog 67 #[.int .u64 p] w fun e w' => e = .returned (.bool (oddP p)) ∧ w = w' := by
  unfold oddP
  by_cases h : 2 < p ∧ p ≤ 65536
  · obtain ⟨h1, h2⟩ := h
    have C := Lib.hid (rPrime_any p (by omega) h2 w)
    have g0 : decide ((2 : Int) < (p : Int)) = true := decide_eq_true (by omega)
    have g0' : decide (2 < p) = true := decide_eq_true h1
    have g1 : decide ((p : Int) ≤ 65536) = true := decide_eq_true (by omega)
    have g1' : decide (p ≤ 65536) = true := decide_eq_true h2
    generalize primeB p = b at *
    go_enter Tryz.func67, Tryz.ntmps67
    go_wp2_with fail
    refine C.out.mono ?_
    rintro e w' ⟨rfl, rfl⟩
    go_wp2_with fail
    go_ret
    exact ⟨by simp [g0', g1'], rfl⟩
  · by_cases h1 : 2 < p
    · have g0 : decide ((2 : Int) < (p : Int)) = true := decide_eq_true (by omega)
      have g0' : decide (2 < p) = true := decide_eq_true h1
      have g1 : decide ((p : Int) ≤ 65536) = false := decide_eq_false (by omega)
      have g1' : decide (p ≤ 65536) = false := decide_eq_false (by omega)
      generalize primeB p = b at *
      go_enter Tryz.func67, Tryz.ntmps67
      go_wp2_with fail
      go_ret
      exact ⟨by simp [g0', g1'], rfl⟩
    · have g0 : decide ((2 : Int) < (p : Int)) = false := decide_eq_false (by omega)
      have g0' : decide (2 < p) = false := decide_eq_false h1
      generalize primeB p = b at *
      go_enter Tryz.func67, Tryz.ntmps67
      go_wp2_with fail
      go_ret
      exact ⟨by simp [g0'], rfl⟩
end Go.Proofs.YtpkpadepccneeaaGreatDoor
