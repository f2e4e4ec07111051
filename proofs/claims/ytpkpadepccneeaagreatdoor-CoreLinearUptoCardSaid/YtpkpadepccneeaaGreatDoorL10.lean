/- The walks of sieve at single numbers (5, 4). No condition. -/
import Derived.Test.YtpkpadepccneeaaGreatDoorL09
import Derived.LoopN
import Derived.Test.YtpkpadepccneeaaGreatDoorL07
import Derived.Test.YtpkpadepccneeaaGreatDoorL05
namespace Go.Proofs.YtpkpadepccneeaaGreatDoor
open Go.RowKit
set_option linter.unusedVariables false
set_option maxRecDepth 100000 in
set_option maxHeartbeats 2000000 in
theorem Factor_5 (w : World) : Calls Tryz.prog 178 #[.int .u64 5] w fun e w' => ∃ v, e = .returned v ∧ OX facEnc 2 130 w' w.heap.size v [⟨5, 1⟩] ∧ Below w.heap.size w w' := by
  go_enter Tryz.func178, Tryz.ntmps178
  go_wp2_with fail
  repeat ((first | rw [rounds_succ] | refine wp_loop_rounds 8 ?_); go_wp2_with (at_builtin; refine wpList_appendX1 rfl (.tmp 33) (.tmp 37) 124 rfl facEnc 2 w.heap.size 130 _ 16 Tryz.underlying124 info130 (by decide) rfl (by decide) (.slice none 0 0) [] ⟨5, 1⟩ _ rfl rfl rfl (OX.nil _ _ _ _ _) rfl (by intro u hu; simp [facEnc] at hu; rcases hu with rfl | rfl <;> rfl) (by simp) (Nat.le_refl _) ?_; intro v w1 ho hb _; have HO := Lib.hid ho; have HB := Lib.hid hb; clear ho hb))
  go_ret
  exact ⟨v, rfl, HO.out, HB.out⟩
set_option maxRecDepth 100000 in
set_option maxHeartbeats 2000000 in
theorem Factor_4 (w : World) : Calls Tryz.prog 178 #[.int .u64 4] w fun e w' => ∃ v, e = .returned v ∧ OX facEnc 2 130 w' w.heap.size v [⟨2, 2⟩] ∧ Below w.heap.size w w' := by
  go_enter Tryz.func178, Tryz.ntmps178
  go_wp2_with fail
  repeat ((first | rw [rounds_succ] | refine wp_loop_rounds 8 ?_); go_wp2_with (at_builtin; refine wpList_appendX1 rfl (.tmp 33) (.tmp 37) 124 rfl facEnc 2 w.heap.size 130 _ 16 Tryz.underlying124 info130 (by decide) rfl (by decide) (.slice none 0 0) [] ⟨2, 2⟩ _ rfl rfl rfl (OX.nil _ _ _ _ _) rfl (by intro u hu; simp [facEnc] at hu; rcases hu with rfl | rfl <;> rfl) (by simp) (Nat.le_refl _) ?_; intro v w1 ho hb _; have HO := Lib.hid ho; have HB := Lib.hid hb; clear ho hb))
  go_ret
  exact ⟨v, rfl, HO.out, HB.out⟩
end Go.Proofs.YtpkpadepccneeaaGreatDoor

/- The walks of modular: Mul, Pow, Neg, Add, Sub, modulo any number from 1 on. No condition. -/
namespace Go.Proofs.YtpkpadepccneeaaGreatDoor
open Go.RowKit
set_option linter.unusedVariables false
theorem Rem64_rd (hi lo y : Nat) (h1 : hi < Mg.R) (h2 : lo < Mg.R) (h3 : 0 < y) (h4 : y < Mg.R) (w : World) : Rd 101 #[.int .u64 hi, .int .u64 lo, .int .u64 y] w (.int .u64 (((hi * Mg.R + lo) % y : Nat) : Int)) :=
  Rd.of_drawn fun n => Rem64_any hi lo y h1 h2 h3 h4 _
theorem Mul64_rd (x y : Nat) (hx : x < Mg.R) (hy : y < Mg.R) (w : World) : Rd 100 #[.int .u64 x, .int .u64 y] w (.tuple #[.int .u64 ((x * y / Mg.R : Nat) : Int), .int .u64 ((x * y % Mg.R : Nat) : Int)]) :=
  Rd.of_same fun n => Mul64_any x y hx hy _
theorem dMul_rd (a b m : Nat) (ha : a < Mg.R) (hb : b < Mg.R) (hm : 1 ≤ m) (hmR : m < Mg.R) (w : World) : Rd 173 #[.int .u64 a, .int .u64 b, .int .u64 m] w (.int .u64 ((a * b % m : Nat) : Int)) := by
  refine Rd.of_drawn fun n => ?_
  have C1 := Mul64_rd a b ha hb w
  have hA : a * b / Mg.R < Mg.R := Nat.div_lt_of_lt_mul (Nat.lt_of_le_of_lt (Nat.mul_le_mul_right _ (Nat.le_of_lt ha)) ((Nat.mul_lt_mul_left (by decide)).2 hb))
  have C2 := Rem64_rd (a * b / Mg.R) (a * b % Mg.R) m hA (Nat.mod_lt _ (by decide)) hm hmR w
  rw [show a * b / Mg.R * Mg.R + a * b % Mg.R = a * b by rw [Nat.mul_comm]; exact Nat.div_add_mod _ _] at C2
  have g0 : ((m : Int) == 0) = false := beq_eq_false_iff_ne.2 (by omega)
  generalize a * b / Mg.R = A at *
  generalize a * b % Mg.R = L at *
  generalize a * b % m = r at *
  clear hA
  go_enter Tryz.func173, Tryz.ntmps173
  go_wp2_with fail
  with_reducible refine (Rd.go (C1) _).mono ?_
  rintro e_ w_ ⟨rfl, k1, rfl⟩
  go_wp2_with fail
  with_reducible refine (Rd.go (C2) _).mono ?_
  rintro e_ w_ ⟨rfl, k2, rfl⟩
  go_wp2_with fail
  go_ret
  exact ⟨rfl, drawn_le (by omega)⟩
set_option maxHeartbeats 1000000 in
theorem dPow_rd (a k m : Nat) (ha : a < Mg.R) (hk : k < Mg.R) (hm : 1 ≤ m) (hmR : m < Mg.R) (w : World) : Rd 235 #[.int .u64 a, .int .u64 k, .int .u64 m] w (.int .u64 ((a ^ k % m : Nat) : Int)) := by
  refine Rd.of_drawn fun n0 => ?_
  have g0 : ((m : Int) == 0) = false := beq_eq_false_iff_ne.2 (by omega)
  have e1 : (1 : Int) % m = ((1 % m : Nat) : Int) := Int.natCast_emod 1 m |>.symm
  have HS := Lib.hid (show 1 % m * a ^ k % m = a ^ k % m by rw [Nat.mod_mul_mod, Nat.one_mul])
  have hone : 1 % m < m := Nat.mod_lt _ hm
  have HC := Lib.hid fun (b c : Nat) (hb : b < Mg.R) (hc : c < Mg.R) => dMul_rd b c m hb hc hm hmR w
  generalize hr : a ^ k % m = r at *
  generalize ho : 1 % m = one at *
  clear hr ho
  have e1' := e1
  go_enter Tryz.func235, Tryz.ntmps235
  go_wp2_with fail
  go_simp
  go_loopw [7, 0, 1] (fun o x e wr => ∃ (b c d n : Nat), o = .int .u64 (b : Int) ∧ x = .int .u64 (c : Int) ∧ e = .int .u64 (d : Int) ∧ wr = w.drewN n ∧ n0 ≤ n ∧ b < m ∧ c < Mg.R ∧ d < Mg.R ∧ Hid (b * c ^ d % m = r)) (fun _ _ e _ => (intOf e).toNat)
  case atStart => exact ⟨one, a, k, n0, rfl, rfl, rfl, rfl, Nat.le_refl _, hone, ha, hk, HS⟩
  case round =>
    clear e1 e1' HS hone ha hk
    obtain ⟨b, c, d, n, rfl, rfl, rfl, rfl, hn, hb, hc, hd, H⟩ := hrel
    by_cases h0 : d = 0
    · subst h0
      have HR := Lib.hid (H.out.symm.trans (show b * c ^ 0 % m = b by rw [Nat.pow_zero, Nat.mul_one, Nat.mod_eq_of_lt hb]))
      go_wp2_with fail
      go_ret
      exact ⟨by rw [HR.out]; rfl, drawn_le hn⟩
    · have g1 : decide (0 < d) = true := decide_eq_true (by omega)
      have hd2 : d / 2 < Mg.R := by omega
      have hd3 : d / 2 < d := by omega
      have hs := Mg.pow_step b d c
      have e2 : (d : Int) / 2 = ((d / 2 : Nat) : Int) := by omega
      have hcc : c * c % m < Mg.R := Nat.lt_trans (Nat.mod_lt _ hm) hmR
      have hpow : ∀ y : Nat, y * (c * c % m) ^ (d / 2) % m = y * (c * c) ^ (d / 2) % m := fun y => by rw [Nat.mul_mod, ← Nat.pow_mod, ← Nat.mul_mod]
      have C2 := HC.out c c hc hc
      by_cases hodd : d % 2 = 1
      · have e3 : bits .and .u64 (d : Int) 1 = 1 := by
          rw [show (1 : Int) = ((1 : Nat) : Int) from rfl, u64_and_nat _ _ (by simp only [Mg.R] at hd; omega) (by decide), Nat.and_one_is_mod, hodd]
        rw [if_pos hodd] at hs
        have C1 := HC.out b c (Nat.lt_trans hb hmR) hc
        have hbc : b * c % m < m := Nat.mod_lt _ hm
        have HS := Lib.hid (show b * c % m * (c * c % m) ^ (d / 2) % m = r by rw [hpow, Nat.mod_mul_mod, hs]; exact H.out)
        generalize d / 2 = q at *
        have HD := Lib.hid hd2
        have HE := Lib.hid hd3
        clear hs hd hd2 hd3 hpow h0 hodd
        generalize b * c % m = b2 at *
        generalize c * c % m = c2 at *
        go_wp2_with fail
        with_reducible refine (Rd.go (C1) _).mono ?_
        rintro e_ w_ ⟨rfl, k1, rfl⟩
        go_wp2_with fail
        with_reducible refine (Rd.go (C2) _).mono ?_
        rintro e_ w_ ⟨rfl, k2, rfl⟩
        go_wp2_with fail
        go_roundw
        case rel => exact ⟨b2, c2, q, _, rfl, rfl, rfl, rfl, by omega, hbc, hcc, HD.out, HS⟩
        case measure => exact HE.out
      · have e3 : bits .and .u64 (d : Int) 1 = 0 := by
          rw [show (1 : Int) = ((1 : Nat) : Int) from rfl, u64_and_nat _ _ (by simp only [Mg.R] at hd; omega) (by decide), Nat.and_one_is_mod, show d % 2 = 0 by omega]
          rfl
        rw [if_neg hodd] at hs
        have HS := Lib.hid (show b * (c * c % m) ^ (d / 2) % m = r by rw [hpow, hs]; exact H.out)
        generalize d / 2 = q at *
        have HD := Lib.hid hd2
        have HE := Lib.hid hd3
        clear hs hd hd2 hd3 hpow h0 hodd
        generalize c * c % m = c2 at *
        go_wp2_with fail
        with_reducible refine (Rd.go (C2) _).mono ?_
        rintro e_ w_ ⟨rfl, k2, rfl⟩
        go_wp2_with fail
        go_roundw
        case rel => exact ⟨b, c2, q, _, rfl, rfl, rfl, rfl, by omega, hb, hcc, HD.out, HS⟩
        case measure => exact HE.out
theorem dNeg_rd (a m : Nat) (ha : a < Mg.R) (hm : 1 ≤ m) (hmR : m < Mg.R) (w : World) : Rd 305 #[.int .u64 a, .int .u64 m] w (.int .u64 (((m - a % m) % m : Nat) : Int)) := by
  refine Rd.of_same fun n => ?_
  have g0 : ((m : Int) == 0) = false := beq_eq_false_iff_ne.2 (by omega)
  have h0 : ¬ (m : Int) = 0 := by omega
  have e1 : (a : Int) % m = ((a % m : Nat) : Int) := (Int.natCast_emod a m).symm
  have hx := Nat.mod_lt a (show 0 < m by omega)
  generalize a % m = x at *
  by_cases hx0 : x = 0
  · subst hx0
    have HR := Lib.hid (show (m - 0) % m = 0 by simp)
    have e1' : (a : Int) % m = 0 := e1
    clear e1
    go_enter Tryz.func305, Tryz.ntmps305
    go_wp2_with fail
    go_ret
    exact ⟨by rw [HR.out]; rfl, rfl⟩
  · have g1 : ((x : Int) == 0) = false := beq_eq_false_iff_ne.2 (by omega)
    have e2 : IntKind.u64.wrap ((m : Int) - x) = ((m - x : Nat) : Int) := by rw [IntKind.wrap_u64]; simp only [Mg.R] at hmR; omega
    rw [Nat.mod_eq_of_lt (show m - x < m by omega)]
    clear hx0
    generalize m - x = y at *
    go_enter Tryz.func305, Tryz.ntmps305
    go_wp2_with fail
    go_ret
    exact ⟨rfl, rfl⟩
theorem tmod_nat (a m : Nat) : (a : Int).tmod m = ((a % m : Nat) : Int) := by rw [Int.tmod_eq_emod_of_nonneg (Int.natCast_nonneg _)]; exact (Int.natCast_emod a m).symm
theorem tdiv_nat (a m : Nat) : (a : Int).tdiv m = ((a / m : Nat) : Int) := by rw [Int.tdiv_eq_ediv_of_nonneg (Int.natCast_nonneg _)]; exact (Int.natCast_ediv a m).symm
theorem dAdd_rd (a b m : Nat) (ha : a < Mg.R) (hb : b < Mg.R) (hm : 1 ≤ m) (hmR : m < Mg.R) (w : World) : Rd 304 #[.int .u64 a, .int .u64 b, .int .u64 m] w (.int .u64 (((a + b) % m : Nat) : Int)) := by
  refine Rd.of_drawn fun n => ?_
  have g0 : ((m : Int) == 0) = false := beq_eq_false_iff_ne.2 (by omega)
  have h0 : ¬ m = 0 := by omega
  have e1 := tmod_nat a m
  have e2 := tmod_nat b m
  have hx := Nat.mod_lt a (show 0 < m by omega)
  have hy := Nat.mod_lt b (show 0 < m by omega)
  rw [Nat.add_mod]
  generalize a % m = x at *
  generalize b % m = y at *
  have s1 : ((x : Int) + y) % 18446744073709551616 = (((x + y) % Mg.R : Nat) : Int) := by simp only [Mg.R]; omega
  have s2 : ((x : Int) + y) / 18446744073709551616 = (((x + y) / Mg.R : Nat) : Int) := by simp only [Mg.R]; omega
  have hc : (x + y) / Mg.R < Mg.R := by simp only [Mg.R] at *; omega
  have C2 := Rem64_rd ((x + y) / Mg.R) ((x + y) % Mg.R) m hc (Nat.mod_lt _ (by decide)) hm hmR w
  rw [show (x + y) / Mg.R * Mg.R + (x + y) % Mg.R = x + y by rw [Nat.mul_comm]; exact Nat.div_add_mod _ _] at C2
  generalize (x + y) / Mg.R = A at *
  generalize (x + y) % Mg.R = L at *
  generalize (x + y) % m = r at *
  have d0 : (0 : Int) ≤ (x : Int) := by omega
  have d1 : (0 : Int) ≤ (y : Int) := by omega
  go_enter Tryz.func304, Tryz.ntmps304
  go_wp2_with fail
  have CA := fun W => add64_0 (x : Int) (y : Int) d0 d1 W
  rw [s1, s2] at CA
  go_quiet (fail)
  clear CA
  go_wp2_with fail
  with_reducible refine (Rd.go (C2) _).mono ?_
  rintro e_ w_ ⟨rfl, k2, rfl⟩
  go_wp2_with fail
  go_ret
  exact ⟨rfl, drawn_le (by omega)⟩
theorem sub_form (a b m : Nat) (hm : 1 ≤ m) : (a + (m - b % m) % m) % m = (a + (m - b % m)) % m := by rw [Nat.add_mod_mod]
theorem dSub_rd (a b m : Nat) (ha : a < Mg.R) (hb : b < Mg.R) (hm : 1 ≤ m) (hmR : m < Mg.R) (w : World) : Rd 277 #[.int .u64 a, .int .u64 b, .int .u64 m] w (.int .u64 (((a + (m - b % m)) % m : Nat) : Int)) := by
  refine Rd.of_drawn fun n => ?_
  have C1 := dNeg_rd b m hb hm hmR w
  have C2 := dAdd_rd a ((m - b % m) % m) m ha (Nat.lt_trans (Nat.mod_lt _ hm) hmR) hm hmR w
  rw [sub_form a b m hm] at C2
  generalize (m - b % m) % m = r at *
  generalize (a + (m - b % m)) % m = s at *
  go_enter Tryz.func277, Tryz.ntmps277
  go_wp2_with fail
  with_reducible refine (Rd.go (C1) _).mono ?_
  rintro e_ w_ ⟨rfl, k1, rfl⟩
  go_wp2_with fail
  with_reducible refine (Rd.go (C2) _).mono ?_
  rintro e_ w_ ⟨rfl, k2, rfl⟩
  go_wp2_with fail
  go_ret
  exact ⟨rfl, drawn_le (by omega)⟩
end Go.Proofs.YtpkpadepccneeaaGreatDoor

/- The walks of sieve at single numbers: Prime, odd, Generator. No condition. -/
namespace Go.Proofs.YtpkpadepccneeaaGreatDoor
open Go.RowKit
set_option linter.unusedVariables false
/-- A row of one element, laid open. -/
structure Row1 (w w' : World) (g c q : Nat) (e : Int) : Prop where
  b1 : w.heap.size ≤ g
  b2 : g < w'.heap.size
  c1 : 1 ≤ c
  c2 : c ≤ maxLen
  k0 : w'.cell? ⟨g, 0, none⟩ = some (.int .u64 q)
  k1 : w'.cell? ⟨g, 1, none⟩ = some (.int .i64 e)
  bl : Below w.heap.size w w'
theorem row1_of {w w' : World} {v : Value} {q : Nat} {e : Int} (h : OX facEnc 2 130 w' w.heap.size v [⟨q, e⟩]) (hb : Below w.heap.size w w') : ∃ g c, v = .slice (some ⟨g, 0, none⟩) 1 c ∧ Row1 w w' g c q e := by
  rcases h.form facEnc_len with ⟨_, h0⟩ | ⟨g, c, rfl, h1, h2, h3, h4, h5⟩
  · cases h0
  · exact ⟨g, c, rfl, ⟨h1, h2, h3, h4, h5 0 0 (by simp) (by decide), h5 0 1 (by simp) (by decide), hb⟩⟩
theorem Factor_5r (w : World) : Calls Tryz.prog 178 #[.int .u64 5] w fun e w' => ∃ g c, e = .returned (.slice (some ⟨g, 0, none⟩) 1 c) ∧ Row1 w w' g c 5 1 :=
  (Factor_5 w).mono fun e w' ⟨v, he, ho, hb⟩ => by obtain ⟨g, c, rfl, h⟩ := row1_of ho hb; exact ⟨g, c, he, h⟩
theorem Factor_4r (w : World) : Calls Tryz.prog 178 #[.int .u64 4] w fun e w' => ∃ g c, e = .returned (.slice (some ⟨g, 0, none⟩) 1 c) ∧ Row1 w w' g c 2 2 :=
  (Factor_4 w).mono fun e w' ⟨v, he, ho, hb⟩ => by obtain ⟨g, c, rfl, h⟩ := row1_of ho hb; exact ⟨g, c, he, h⟩
theorem Prime_5 (w : World) : Calls Tryz.prog 177 #[.int .u64 5] w fun e w' => e = .returned (.bool true) ∧ Below w.heap.size w w' := by
  go_enter Tryz.func177, Tryz.ntmps177
  go_wp2_with fail
  with_reducible refine ((Factor_5r w)).mono ?_
  rintro e w1 ⟨g, c, rfl, h⟩
  have H := Lib.hid h
  have k1 := h.k1
  clear h
  go_wp2_with fail
  go_ret
  exact ⟨rfl, H.out.bl⟩
theorem Prime_4 (w : World) : Calls Tryz.prog 177 #[.int .u64 4] w fun e w' => e = .returned (.bool false) ∧ Below w.heap.size w w' := by
  go_enter Tryz.func177, Tryz.ntmps177
  go_wp2_with fail
  with_reducible refine ((Factor_4r w)).mono ?_
  rintro e w1 ⟨g, c, rfl, h⟩
  have H := Lib.hid h
  have k1 := h.k1
  clear h
  go_wp2_with fail
  go_ret
  exact ⟨rfl, H.out.bl⟩
theorem odd_5 (w : World) : Calls Tryz.prog 119 #[.int .u64 5] w fun e w' => e = .returned (.bool true) ∧ Below w.heap.size w w' := by
  go_enter Tryz.func119, Tryz.ntmps119
  go_wp2_with fail
  with_reducible refine ((Prime_5 w)).mono ?_
  rintro e w1 ⟨rfl, hb⟩
  have HB := Lib.hid hb
  clear hb
  go_wp2_with fail
  go_ret
  exact ⟨rfl, HB.out⟩
theorem gen_closure (gg gp : Nat) (w : World) (h1 : w.cell? ⟨gg, 0, none⟩ = some (.int .u64 2)) (h2 : w.cell? ⟨gp, 0, none⟩ = some (.int .u64 5)) :
    Calls Tryz.prog 234 #[.agg #[.int .u64 2, .int .i64 2], .pointer (some ⟨gg, 0, none⟩), .pointer (some ⟨gp, 0, none⟩)] w fun e w' => e = .returned (.bool false) ∧ Below w.heap.size w w' := by
  have hb1 := World.block_lt_of_cell? w _ h1
  have hb2 := World.block_lt_of_cell? w _ h2
  have C := dPow_rd 2 2 5 (by decide) (by decide) (by decide) (by decide) (w.alloc (.cells #[.int .u64 2, .int .i64 2] 130))
  rw [show ((2 ^ 2 % 5 : Nat) : Int) = 4 by decide] at C
  have C' : Rd 235 #[.int .u64 2, .int .u64 2, .int .u64 5] (w.alloc (.cells #[.int .u64 2, .int .i64 2] 130)) (.int .u64 4) := C
  clear C
  have HB := Lib.hid ((Below.refl w.heap.size w).alloc (Nat.le_refl _) (.cells #[.int .u64 2, .int .i64 2] 130))
  go_enter Tryz.func234, Tryz.ntmps234
  go_wp2_with fail
  go_quiet ((go_at_call 235; first | exact Rd.qa (C') _ _ | exact Rd.q (C') _))
  go_wp2_with fail
  go_ret
  exact ⟨rfl, below_drewN HB.out _⟩
theorem gen_index (gg gp g c : Nat) (w : World) (h1 : w.cell? ⟨gg, 0, none⟩ = some (.int .u64 2)) (h2 : w.cell? ⟨gp, 0, none⟩ = some (.int .u64 5)) (k0 : w.cell? ⟨g, 0, none⟩ = some (.int .u64 2)) (k1 : w.cell? ⟨g, 1, none⟩ = some (.int .i64 2)) :
    Calls Tryz.prog 278 #[.slice (some ⟨g, 0, none⟩) 1 c, .func (.func 234) #[] #[.pointer (some ⟨gg, 0, none⟩), .pointer (some ⟨gp, 0, none⟩)]] w fun e w' => e = .returned (.int .i64 (-1)) ∧ Below w.heap.size w w' := by
  have C := Lib.hid (gen_closure gg gp w h1 h2)
  clear h1 h2
  go_enter Tryz.func278, Tryz.ntmps278
  go_wp2_with fail
  refine wp_loop_rounds 3 ?_
  rw [rounds_succ]
  go_wp2_with fail
  with_reducible refine (C.out).mono ?_
  rintro e w1 ⟨rfl, hb⟩
  have HB := Lib.hid hb
  clear hb
  go_wp2_with fail
  rw [rounds_succ]
  go_wp2_with fail
  go_ret
  exact ⟨rfl, HB.out⟩
theorem gen_contains (gg gp g c : Nat) (w : World) (h1 : w.cell? ⟨gg, 0, none⟩ = some (.int .u64 2)) (h2 : w.cell? ⟨gp, 0, none⟩ = some (.int .u64 5)) (k0 : w.cell? ⟨g, 0, none⟩ = some (.int .u64 2)) (k1 : w.cell? ⟨g, 1, none⟩ = some (.int .i64 2)) :
    Calls Tryz.prog 233 #[.slice (some ⟨g, 0, none⟩) 1 c, .func (.func 234) #[] #[.pointer (some ⟨gg, 0, none⟩), .pointer (some ⟨gp, 0, none⟩)]] w fun e w' => e = .returned (.bool false) ∧ Below w.heap.size w w' := by
  have C := Lib.hid (gen_index gg gp g c w h1 h2 k0 k1)
  clear h1 h2 k0 k1
  go_enter Tryz.func233, Tryz.ntmps233
  go_wp2_with fail
  with_reducible refine (C.out).mono ?_
  rintro e w1 ⟨rfl, hb⟩
  have HB := Lib.hid hb
  clear hb
  go_wp2_with fail
  go_ret
  exact ⟨rfl, HB.out⟩
theorem Generator_5 (w : World) : Calls Tryz.prog 179 #[.int .u64 5] w fun e w' => e = .returned (.int .u64 2) ∧ Below w.heap.size w w' := by
  have HB0 := Lib.hid ((Below.refl w.heap.size w).alloc (Nat.le_refl _) (.cells #[.int .u64 5] 22))
  have K0 := Lib.hid (Blk.new w 22 #[.int .u64 5])
  go_enter Tryz.func179, Tryz.ntmps179
  go_wp2_with fail
  with_reducible refine ((odd_5 _)).mono ?_
  rintro e w1 ⟨rfl, hb⟩
  have HB1 := Lib.hid (below_then HB0.out HB0.out.size hb)
  have K1 := Lib.hid (K0.out.below hb K0.out.lt)
  clear hb K0 HB0
  have d0 := K1.out.cell 0
  go_wp2_with fail
  with_reducible refine ((Factor_4r _)).mono ?_
  rintro e w2 ⟨g, c, rfl, h⟩
  have HB2 := Lib.hid (below_then HB1.out HB1.out.size h.bl)
  have K2 := Lib.hid (K1.out.below h.bl K1.out.lt)
  have HR := Lib.hid h
  clear h d0 K1
  have hb3 := (Below.refl w2.heap.size w2).alloc (Nat.le_refl _) (.cells #[.int .u64 2] 22)
  have HB3 := Lib.hid (below_then HB2.out HB2.out.size hb3)
  have CC := Lib.hid (gen_contains w2.heap.size w.heap.size g c (w2.alloc (.cells #[.int .u64 2] 22)) ((Blk.new w2 22 #[.int .u64 2]).cell 0) ((K2.out.alloc _).cell 0) (bcell hb3 HR.out.k0) (bcell hb3 HR.out.k1))
  have K3 := Lib.hid (Blk.new w2 22 #[.int .u64 2])
  clear hb3
  go_wp2_with fail
  refine wp_loop_rounds 2 ?_
  rw [rounds_succ]
  go_wp2_with fail
  with_reducible refine (CC.out).mono ?_
  rintro e w4 ⟨rfl, hb⟩
  have HB4 := Lib.hid (below_then HB3.out HB3.out.size hb)
  have K4 := Lib.hid (K3.out.below hb K3.out.lt)
  clear hb
  have d4 := K4.out.cell 0
  go_wp2_with fail
  go_ret
  exact ⟨rfl, HB4.out⟩
end Go.Proofs.YtpkpadepccneeaaGreatDoor
