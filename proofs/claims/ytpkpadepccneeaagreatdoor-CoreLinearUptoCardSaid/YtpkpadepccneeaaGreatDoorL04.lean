/- math/bits: Add64, Div64, Rem64. No condition. -/
import Derived.Test.YtpkpadepccneeaaGreatDoorL03
import Derived.Test.YtpkpadepccneeaaGreatDoorL02
import Derived.Test.YtpkpadepccneeaaGreatDoorL01
namespace Go.Proofs.YtpkpadepccneeaaGreatDoor
open Go.RowKit
set_option linter.unusedVariables false
set_option maxHeartbeats 2000000 in
theorem Div64_big (hi lo y : Int) (h0 : 0 ≤ hi) (h1 : 0 ≤ lo) (h2 : lo ≤ 18446744073709551615) (h3 : hi < y) (h4 : y ≤ 18446744073709551615) (hhi : hi ≠ 0) (w : World) :
    Calls Tryz.prog 156 #[.int .u64 hi, .int .u64 lo, .int .u64 y] w fun e w' => ∃ q : Int, e = .returned (.tuple #[.int .u64 q, .int .u64 ((hi * 18446744073709551616 + lo) % y)]) ∧ Drawn w w' := by
  have CL := Lib.hid (Tryz.bits_LeadingZeros64 y w (by omega) h4)
  obtain ⟨s, hs0, hs1, hsE, Y, U, V, hS⟩ : ∃ s : Int, 0 ≤ s ∧ s < 64 ∧ (64 : Int) - (Lib.bitLen y.toNat : Int) = s ∧ ∃ Y U V, Sh hi lo y s Y U V := by
    obtain ⟨hi, rfl⟩ := Int.eq_ofNat_of_zero_le h0
    obtain ⟨lo, rfl⟩ := Int.eq_ofNat_of_zero_le h1
    obtain ⟨y, rfl⟩ := Int.eq_ofNat_of_zero_le (show 0 ≤ y by omega)
    obtain ⟨t1, t2, Y, U, V, t3⟩ := sh_nat hi lo y (by omega) (by omega) (by omega)
    exact ⟨_, by rw [Int.toNat_natCast]; omega, by rw [Int.toNat_natCast]; omega, rfl, Y, U, V, by rw [Int.toNat_natCast]; exact t3⟩
  rw [hsE] at CL
  clear hsE
  have k1 := hS.wy
  have k2 := hS.wu
  have k3 := hS.wv
  obtain ⟨o1, o2, o3, o4, o5, o6⟩ := hS.ok
  have HR := Lib.hid hS.rest
  have a1 := and_low Y (by omega) (by omega)
  have a2 := and_low V (by omega) (by omega)
  have e0 : 0 ≤ Y % 4294967296 := by omega
  have e1 : Y % 4294967296 < 4294967296 := by omega
  have e2 : 2147483648 ≤ Y / 4294967296 := by omega
  have e3 : Y / 4294967296 < 4294967296 := by omega
  have e4 : Y / 4294967296 * 4294967296 + Y % 4294967296 = Y := by omega
  have e5 : 0 ≤ V % 4294967296 := by omega
  have e6 : V % 4294967296 < 4294967296 := by omega
  have e7 : 0 ≤ V / 4294967296 := by omega
  have e8 : V / 4294967296 < 4294967296 := by omega
  have e9 : V / 4294967296 * 4294967296 + V % 4294967296 = V := by omega
  generalize b1 : Y / 4294967296 = y1 at *
  generalize b2 : Y % 4294967296 = y0 at *
  generalize b3 : V / 4294967296 = v1 at *
  generalize b4 : V % 4294967296 = v0 at *
  have hy1 : ¬ y1 = 0 := by omega
  have hY : ¬ Y = 0 := by omega
  have ok1 : Kn.Ok y1 y0 U v1 := ⟨e2, e3, e0, e1, o3, by omega, e7, e8⟩
  have st1 := ok1.start
  have L1 := ok1.lt
  have L2 := ok1.nonneg
  have L3 := Kn.rest ok1
  have L4 := Int.emod_nonneg (U * 4294967296 + v1) hY
  have L5 := Int.emod_lt_of_pos (U * 4294967296 + v1) (show 0 < Y by omega)
  have ok2 : Kn.Ok y1 y0 ((U * 4294967296 + v1) % Y) v0 := ⟨e2, e3, e0, e1, L4, by omega, e5, e6⟩
  have st2 := ok2.start
  have M1 := ok2.lt
  have M2 := ok2.nonneg
  have M3 := Kn.rest ok2
  have M4 := Int.emod_nonneg ((U * 4294967296 + v1) % Y * 4294967296 + v0) hY
  have M5 := Int.emod_lt_of_pos ((U * 4294967296 + v1) % Y * 4294967296 + v0) (show 0 < Y by omega)
  have HT := two_rests U v1 v0 Y
  have n1 : IntKind.u64.wrap (U / y1 * y1) = U / y1 * y1 := w_small (Int.mul_nonneg (Int.ediv_nonneg o3 (by omega)) (by omega)) (by have := st1.2.1; omega)
  have n2 : IntKind.u64.wrap (U - U / y1 * y1) = U - U / y1 * y1 := w_small st1.2.1 (by have := st1.2.2.1; omega)
  have p1 : IntKind.u64.wrap ((U * 4294967296 + v1) % Y / y1 * y1) = (U * 4294967296 + v1) % Y / y1 * y1 := w_small (Int.mul_nonneg (Int.ediv_nonneg L4 (by omega)) (by omega)) (by have := st2.2.1; omega)
  have p2 : IntKind.u64.wrap ((U * 4294967296 + v1) % Y - (U * 4294967296 + v1) % Y / y1 * y1) = (U * 4294967296 + v1) % Y - (U * 4294967296 + v1) % Y / y1 * y1 := w_small st2.2.1 (by have := st2.2.2.1; omega)
  rw [e4] at L1 L2 L3 M1 M2 M3
  have W1 : IntKind.u64.wrap (IntKind.u64.wrap (IntKind.u64.wrap (U * 4294967296) + v1) - IntKind.u64.wrap ((U * 4294967296 + v1) / Y * Y)) = (U * 4294967296 + v1) % Y := (w_rest (by rw [L3]; exact L4) (by rw [L3]; omega)).trans L3
  have W2 : IntKind.u64.wrap (IntKind.u64.wrap (IntKind.u64.wrap ((U * 4294967296 + v1) % Y * 4294967296) + v0) - IntKind.u64.wrap (((U * 4294967296 + v1) % Y * 4294967296 + v0) / Y * Y)) = ((U * 4294967296 + v1) % Y * 4294967296 + v0) % Y := (w_rest (by rw [M3]; exact M4) (by rw [M3]; omega)).trans M3
  rw [e9] at HT
  have HF : ((U * 4294967296 + v1) % Y * 4294967296 + v0) % Y / 2 ^ s.toNat = (hi * 18446744073709551616 + lo) % y := by rw [HT]; exact HR.out
  have f1 : ∀ q r : Int, Kn.Inv y1 y0 U v1 q r → _ := fun q r h => h
  have X1 : ∀ q r : Int, q * y1 + r = U → q * y0 ≤ 4294967296 * r + v1 → (U * 4294967296 + v1) / Y ≤ q → q = (U * 4294967296 + v1) / Y := fun q r => by have := @Kn.done y1 y0 U v1 q r ok1; rw [e4] at this; exact this
  have X2 : ∀ q r : Int, q * y1 + r = U → 4294967296 ≤ r → q ≤ 4294967296 → (U * 4294967296 + v1) / Y ≤ q → q = (U * 4294967296 + v1) / Y := fun q r => by have := @Kn.over y1 y0 U v1 q r ok1; rw [e4] at this; exact this
  have X3 : ∀ q r : Int, Kn.Inv y1 y0 U v1 q r → 4294967296 * r + v1 < q * y0 → (U * 4294967296 + v1) / Y ≤ q - 1 := fun q r i h => by have := Kn.Inv.more ok1 i h; rw [e4] at this; exact this
  have Z1 : ∀ q r : Int, q * y1 + r = (U * 4294967296 + v1) % Y → q * y0 ≤ 4294967296 * r + v0 → ((U * 4294967296 + v1) % Y * 4294967296 + v0) / Y ≤ q → q = ((U * 4294967296 + v1) % Y * 4294967296 + v0) / Y := fun q r => by have := @Kn.done y1 y0 ((U * 4294967296 + v1) % Y) v0 q r ok2; rw [e4] at this; exact this
  have Z2 : ∀ q r : Int, q * y1 + r = (U * 4294967296 + v1) % Y → 4294967296 ≤ r → q ≤ 4294967296 → ((U * 4294967296 + v1) % Y * 4294967296 + v0) / Y ≤ q → q = ((U * 4294967296 + v1) % Y * 4294967296 + v0) / Y := fun q r => by have := @Kn.over y1 y0 ((U * 4294967296 + v1) % Y) v0 q r ok2; rw [e4] at this; exact this
  have Z3 : ∀ q r : Int, Kn.Inv y1 y0 ((U * 4294967296 + v1) % Y) v0 q r → 4294967296 * r + v0 < q * y0 → ((U * 4294967296 + v1) % Y * 4294967296 + v0) / Y ≤ q - 1 := fun q r i h => by have := Kn.Inv.more ok2 i h; rw [e4] at this; exact this
  unfold Kn.Inv at *
  rw [e4] at *
  clear L3 M3 HT HR ok1 ok2 hS f1
  generalize (U * 4294967296 + v1) / Y = Q1 at *
  generalize (U * 4294967296 + v1) % Y = W at *
  generalize (W * 4294967296 + v0) / Y = Q2 at *
  generalize (W * 4294967296 + v0) % Y = T at *
  generalize b5 : U / y1 = q0 at *
  generalize b6 : U - q0 * y1 = r0 at *
  generalize b7 : W / y1 = p0 at *
  generalize b8 : W - p0 * y1 = t0 at *
  have HX1 := Lib.hid X1
  have HX2 := Lib.hid X2
  have HX3 := Lib.hid X3
  have HZ1 := Lib.hid Z1
  have HZ2 := Lib.hid Z2
  have HZ3 := Lib.hid Z3
  clear X1 X2 X3 Z1 Z2 Z3
  go_enter Tryz.func156, Tryz.ntmps156
  go_wp2_with fail
  refine CL.out.mono ?_
  rintro e w' ⟨rfl, rfl⟩
  go_wp2_with fail
  go_loop [15, 16] (fun a b => ∃ q r : Int, a = .int .u64 q ∧ b = .int .u64 r ∧ (q * y1 + r = U ∧ 0 ≤ r ∧ r < 4294967296 ∧ Q1 ≤ q ∧ q ≤ 4294967297)) (fun a _ => (intOf a).toNat)
  case atStart => exact ⟨_, _, rfl, rfl, by first | exact st1 | (rw [b5]; exact st1)⟩
  case round =>
    obtain ⟨q, r, rfl, rfl, i1, i2, i3, i4, i5⟩ := hrel
    by_cases hbig : 4294967296 ≤ q
    · have g1 : decide (4294967296 ≤ q) = true := by simpa using hbig
      have hlow : Q1 ≤ q - 1 := by omega
      have hid : (q - 1) * y1 + (r + y1) = U := by rw [Int.sub_mul, Int.one_mul]; omega
      have m1 : IntKind.u64.wrap (q - 1) = q - 1 := w_small (by omega) (by omega)
      have m2 : IntKind.u64.wrap (r + y1) = r + y1 := w_small (by omega) (by omega)
      by_cases hbrk : 4294967296 ≤ r + y1
      · have g2 : decide (4294967296 ≤ r + y1) = true := by simpa using hbrk
        have m3 : q - 1 = Q1 := HX2.out _ _ hid hbrk (by omega) hlow
        clear i1 i4 i5 hlow hid hbig hbrk
        go_wp2_with fail
        go_loop [18, 16] (fun a b => ∃ q r : Int, a = .int .u64 q ∧ b = .int .u64 r ∧ (q * y1 + r = W ∧ 0 ≤ r ∧ r < 4294967296 ∧ Q2 ≤ q ∧ q ≤ 4294967297)) (fun a _ => (intOf a).toNat)
        case atStart => exact ⟨_, _, rfl, rfl, by first | exact st2 | (rw [b7]; exact st2)⟩
        case round =>
          obtain ⟨q, r, rfl, rfl, i1, i2, i3, i4, i5⟩ := hrel
          by_cases hbig : 4294967296 ≤ q
          · have g1 : decide (4294967296 ≤ q) = true := by simpa using hbig
            have hlow : Q2 ≤ q - 1 := by omega
            have hid : (q - 1) * y1 + (r + y1) = W := by rw [Int.sub_mul, Int.one_mul]; omega
            have m1 : IntKind.u64.wrap (q - 1) = q - 1 := w_small (by omega) (by omega)
            have m2 : IntKind.u64.wrap (r + y1) = r + y1 := w_small (by omega) (by omega)
            by_cases hbrk : 4294967296 ≤ r + y1
            · have g2 : decide (4294967296 ≤ r + y1) = true := by simpa using hbrk
              have m3 : q - 1 = Q2 := HZ2.out _ _ hid hbrk (by omega) hlow
              clear i1 i4 i5 hlow hid hbig hbrk
              go_wp2_with fail
              go_ret2
              exact ⟨⟨_, rfl⟩, Drawn.refl _⟩
            · have g2 : decide (4294967296 ≤ r + y1) = false := by simpa using hbrk
              go_wp2_with fail
              go_round
              case rel => exact ⟨_, _, rfl, rfl, hid, by omega, by omega, hlow, by omega⟩
              case measure => simp [intOf]; omega
          · have g1 : decide (4294967296 ≤ q) = false := by simpa using hbig
            have j0 : 0 ≤ q * y0 := Int.mul_nonneg (by omega) (by omega)
            have j1 : q * y0 ≤ 4294967295 * y0 := Int.mul_le_mul_of_nonneg_right (by omega) (by omega)
            have j2 : IntKind.u64.wrap (q * y0) = q * y0 := w_small j0 (by omega)
            have j3 : IntKind.u64.wrap (4294967296 * r) = 4294967296 * r := w_small (by omega) (by omega)
            have j4 : IntKind.u64.wrap (4294967296 * r + v0) = 4294967296 * r + v0 := w_small (by omega) (by omega)
            by_cases hmore : 4294967296 * r + v0 < q * y0
            · have g3 : decide (4294967296 * r + v0 < q * y0) = true := by simpa using hmore
              have hlow : Q2 ≤ q - 1 := HZ3.out q r ⟨i1, i2, i3, i4, i5⟩ hmore
              have hid : (q - 1) * y1 + (r + y1) = W := by rw [Int.sub_mul, Int.one_mul]; omega
              have m1 : IntKind.u64.wrap (q - 1) = q - 1 := w_small (by omega) (by omega)
              have m2 : IntKind.u64.wrap (r + y1) = r + y1 := w_small (by omega) (by omega)
              by_cases hbrk : 4294967296 ≤ r + y1
              · have g2 : decide (4294967296 ≤ r + y1) = true := by simpa using hbrk
                have m3 : q - 1 = Q2 := HZ2.out _ _ hid hbrk (by omega) hlow
                clear i1 i4 i5 hlow hid hbig hbrk
                go_wp2_with fail
                go_ret2
                exact ⟨⟨_, rfl⟩, Drawn.refl _⟩
              · have g2 : decide (4294967296 ≤ r + y1) = false := by simpa using hbrk
                go_wp2_with fail
                go_round
                case rel => exact ⟨_, _, rfl, rfl, hid, by omega, by omega, hlow, by omega⟩
                case measure => simp [intOf]; omega
            · have g3 : decide (4294967296 * r + v0 < q * y0) = false := by simpa using hmore
              have m3 : q = Q2 := HZ1.out q r i1 (by omega) i4
              subst m3
              clear i1 i4 i5 hbig hmore
              go_wp2_with fail
              go_ret2
              exact ⟨⟨_, rfl⟩, Drawn.refl _⟩
      · have g2 : decide (4294967296 ≤ r + y1) = false := by simpa using hbrk
        go_wp2_with fail
        go_round
        case rel => exact ⟨_, _, rfl, rfl, hid, by omega, by omega, hlow, by omega⟩
        case measure => simp [intOf]; omega
    · have g1 : decide (4294967296 ≤ q) = false := by simpa using hbig
      have j0 : 0 ≤ q * y0 := Int.mul_nonneg (by omega) (by omega)
      have j1 : q * y0 ≤ 4294967295 * y0 := Int.mul_le_mul_of_nonneg_right (by omega) (by omega)
      have j2 : IntKind.u64.wrap (q * y0) = q * y0 := w_small j0 (by omega)
      have j3 : IntKind.u64.wrap (4294967296 * r) = 4294967296 * r := w_small (by omega) (by omega)
      have j4 : IntKind.u64.wrap (4294967296 * r + v1) = 4294967296 * r + v1 := w_small (by omega) (by omega)
      by_cases hmore : 4294967296 * r + v1 < q * y0
      · have g3 : decide (4294967296 * r + v1 < q * y0) = true := by simpa using hmore
        have hlow : Q1 ≤ q - 1 := HX3.out q r ⟨i1, i2, i3, i4, i5⟩ hmore
        have hid : (q - 1) * y1 + (r + y1) = U := by rw [Int.sub_mul, Int.one_mul]; omega
        have m1 : IntKind.u64.wrap (q - 1) = q - 1 := w_small (by omega) (by omega)
        have m2 : IntKind.u64.wrap (r + y1) = r + y1 := w_small (by omega) (by omega)
        by_cases hbrk : 4294967296 ≤ r + y1
        · have g2 : decide (4294967296 ≤ r + y1) = true := by simpa using hbrk
          have m3 : q - 1 = Q1 := HX2.out _ _ hid hbrk (by omega) hlow
          clear i1 i4 i5 hlow hid hbig hbrk
          go_wp2_with fail
          go_loop [18, 16] (fun a b => ∃ q r : Int, a = .int .u64 q ∧ b = .int .u64 r ∧ (q * y1 + r = W ∧ 0 ≤ r ∧ r < 4294967296 ∧ Q2 ≤ q ∧ q ≤ 4294967297)) (fun a _ => (intOf a).toNat)
          case atStart => exact ⟨_, _, rfl, rfl, by first | exact st2 | (rw [b7]; exact st2)⟩
          case round =>
            obtain ⟨q, r, rfl, rfl, i1, i2, i3, i4, i5⟩ := hrel
            by_cases hbig : 4294967296 ≤ q
            · have g1 : decide (4294967296 ≤ q) = true := by simpa using hbig
              have hlow : Q2 ≤ q - 1 := by omega
              have hid : (q - 1) * y1 + (r + y1) = W := by rw [Int.sub_mul, Int.one_mul]; omega
              have m1 : IntKind.u64.wrap (q - 1) = q - 1 := w_small (by omega) (by omega)
              have m2 : IntKind.u64.wrap (r + y1) = r + y1 := w_small (by omega) (by omega)
              by_cases hbrk : 4294967296 ≤ r + y1
              · have g2 : decide (4294967296 ≤ r + y1) = true := by simpa using hbrk
                have m3 : q - 1 = Q2 := HZ2.out _ _ hid hbrk (by omega) hlow
                clear i1 i4 i5 hlow hid hbig hbrk
                go_wp2_with fail
                go_ret2
                exact ⟨⟨_, rfl⟩, Drawn.refl _⟩
              · have g2 : decide (4294967296 ≤ r + y1) = false := by simpa using hbrk
                go_wp2_with fail
                go_round
                case rel => exact ⟨_, _, rfl, rfl, hid, by omega, by omega, hlow, by omega⟩
                case measure => simp [intOf]; omega
            · have g1 : decide (4294967296 ≤ q) = false := by simpa using hbig
              have j0 : 0 ≤ q * y0 := Int.mul_nonneg (by omega) (by omega)
              have j1 : q * y0 ≤ 4294967295 * y0 := Int.mul_le_mul_of_nonneg_right (by omega) (by omega)
              have j2 : IntKind.u64.wrap (q * y0) = q * y0 := w_small j0 (by omega)
              have j3 : IntKind.u64.wrap (4294967296 * r) = 4294967296 * r := w_small (by omega) (by omega)
              have j4 : IntKind.u64.wrap (4294967296 * r + v0) = 4294967296 * r + v0 := w_small (by omega) (by omega)
              by_cases hmore : 4294967296 * r + v0 < q * y0
              · have g3 : decide (4294967296 * r + v0 < q * y0) = true := by simpa using hmore
                have hlow : Q2 ≤ q - 1 := HZ3.out q r ⟨i1, i2, i3, i4, i5⟩ hmore
                have hid : (q - 1) * y1 + (r + y1) = W := by rw [Int.sub_mul, Int.one_mul]; omega
                have m1 : IntKind.u64.wrap (q - 1) = q - 1 := w_small (by omega) (by omega)
                have m2 : IntKind.u64.wrap (r + y1) = r + y1 := w_small (by omega) (by omega)
                by_cases hbrk : 4294967296 ≤ r + y1
                · have g2 : decide (4294967296 ≤ r + y1) = true := by simpa using hbrk
                  have m3 : q - 1 = Q2 := HZ2.out _ _ hid hbrk (by omega) hlow
                  clear i1 i4 i5 hlow hid hbig hbrk
                  go_wp2_with fail
                  go_ret2
                  exact ⟨⟨_, rfl⟩, Drawn.refl _⟩
                · have g2 : decide (4294967296 ≤ r + y1) = false := by simpa using hbrk
                  go_wp2_with fail
                  go_round
                  case rel => exact ⟨_, _, rfl, rfl, hid, by omega, by omega, hlow, by omega⟩
                  case measure => simp [intOf]; omega
              · have g3 : decide (4294967296 * r + v0 < q * y0) = false := by simpa using hmore
                have m3 : q = Q2 := HZ1.out q r i1 (by omega) i4
                subst m3
                clear i1 i4 i5 hbig hmore
                go_wp2_with fail
                go_ret2
                exact ⟨⟨_, rfl⟩, Drawn.refl _⟩
        · have g2 : decide (4294967296 ≤ r + y1) = false := by simpa using hbrk
          go_wp2_with fail
          go_round
          case rel => exact ⟨_, _, rfl, rfl, hid, by omega, by omega, hlow, by omega⟩
          case measure => simp [intOf]; omega
      · have g3 : decide (4294967296 * r + v1 < q * y0) = false := by simpa using hmore
        have m3 : q = Q1 := HX1.out q r i1 (by omega) i4
        subst m3
        clear i1 i4 i5 hbig hmore
        go_wp2_with fail
        go_loop [18, 16] (fun a b => ∃ q r : Int, a = .int .u64 q ∧ b = .int .u64 r ∧ (q * y1 + r = W ∧ 0 ≤ r ∧ r < 4294967296 ∧ Q2 ≤ q ∧ q ≤ 4294967297)) (fun a _ => (intOf a).toNat)
        case atStart => exact ⟨_, _, rfl, rfl, by first | exact st2 | (rw [b7]; exact st2)⟩
        case round =>
          obtain ⟨q, r, rfl, rfl, i1, i2, i3, i4, i5⟩ := hrel
          by_cases hbig : 4294967296 ≤ q
          · have g1 : decide (4294967296 ≤ q) = true := by simpa using hbig
            have hlow : Q2 ≤ q - 1 := by omega
            have hid : (q - 1) * y1 + (r + y1) = W := by rw [Int.sub_mul, Int.one_mul]; omega
            have m1 : IntKind.u64.wrap (q - 1) = q - 1 := w_small (by omega) (by omega)
            have m2 : IntKind.u64.wrap (r + y1) = r + y1 := w_small (by omega) (by omega)
            by_cases hbrk : 4294967296 ≤ r + y1
            · have g2 : decide (4294967296 ≤ r + y1) = true := by simpa using hbrk
              have m3 : q - 1 = Q2 := HZ2.out _ _ hid hbrk (by omega) hlow
              clear i1 i4 i5 hlow hid hbig hbrk
              go_wp2_with fail
              go_ret2
              exact ⟨⟨_, rfl⟩, Drawn.refl _⟩
            · have g2 : decide (4294967296 ≤ r + y1) = false := by simpa using hbrk
              go_wp2_with fail
              go_round
              case rel => exact ⟨_, _, rfl, rfl, hid, by omega, by omega, hlow, by omega⟩
              case measure => simp [intOf]; omega
          · have g1 : decide (4294967296 ≤ q) = false := by simpa using hbig
            have j0 : 0 ≤ q * y0 := Int.mul_nonneg (by omega) (by omega)
            have j1 : q * y0 ≤ 4294967295 * y0 := Int.mul_le_mul_of_nonneg_right (by omega) (by omega)
            have j2 : IntKind.u64.wrap (q * y0) = q * y0 := w_small j0 (by omega)
            have j3 : IntKind.u64.wrap (4294967296 * r) = 4294967296 * r := w_small (by omega) (by omega)
            have j4 : IntKind.u64.wrap (4294967296 * r + v0) = 4294967296 * r + v0 := w_small (by omega) (by omega)
            by_cases hmore : 4294967296 * r + v0 < q * y0
            · have g3 : decide (4294967296 * r + v0 < q * y0) = true := by simpa using hmore
              have hlow : Q2 ≤ q - 1 := HZ3.out q r ⟨i1, i2, i3, i4, i5⟩ hmore
              have hid : (q - 1) * y1 + (r + y1) = W := by rw [Int.sub_mul, Int.one_mul]; omega
              have m1 : IntKind.u64.wrap (q - 1) = q - 1 := w_small (by omega) (by omega)
              have m2 : IntKind.u64.wrap (r + y1) = r + y1 := w_small (by omega) (by omega)
              by_cases hbrk : 4294967296 ≤ r + y1
              · have g2 : decide (4294967296 ≤ r + y1) = true := by simpa using hbrk
                have m3 : q - 1 = Q2 := HZ2.out _ _ hid hbrk (by omega) hlow
                clear i1 i4 i5 hlow hid hbig hbrk
                go_wp2_with fail
                go_ret2
                exact ⟨⟨_, rfl⟩, Drawn.refl _⟩
              · have g2 : decide (4294967296 ≤ r + y1) = false := by simpa using hbrk
                go_wp2_with fail
                go_round
                case rel => exact ⟨_, _, rfl, rfl, hid, by omega, by omega, hlow, by omega⟩
                case measure => simp [intOf]; omega
            · have g3 : decide (4294967296 * r + v0 < q * y0) = false := by simpa using hmore
              have m3 : q = Q2 := HZ1.out q r i1 (by omega) i4
              subst m3
              clear i1 i4 i5 hbig hmore
              go_wp2_with fail
              go_ret2
              exact ⟨⟨_, rfl⟩, Drawn.refl _⟩
end Go.Proofs.YtpkpadepccneeaaGreatDoor

/- Plain numbers: Montgomery's product as a function of two numbers. No condition. -/
namespace Go.Proofs.YtpkpadepccneeaaGreatDoor.Mg
set_option linter.unusedVariables false
/-- What makes 1 with 2^64, modulo an odd number. -/
def ri (m : Nat) : Nat := ((m + 1) / 2) ^ 64 % m
theorem half {m : Nat} (ho : m % 2 = 1) : 2 * ((m + 1) / 2) = m + 1 := by omega
theorem pow_mod_one {m a : Nat} (h : a % m = 1 % m) : ∀ k, a ^ k % m = 1 % m
  | 0 => by simp
  | k + 1 => by rw [Nat.pow_succ, Nat.mul_mod, pow_mod_one h k, h, ← Nat.mul_mod, Nat.mul_one]
theorem ri_spec {m : Nat} (ho : m % 2 = 1) : R * ri m % m = 1 % m := by
  unfold ri
  rw [Nat.mul_mod, Nat.mod_mod, ← Nat.mul_mod, show R = 2 ^ 64 from rfl, ← Nat.mul_pow, half ho]
  exact pow_mod_one (by simp) 64
theorem coprime_R {m : Nat} (ho : m % 2 = 1) : Nat.Coprime R m := by
  rw [show R = 2 ^ 64 from rfl]
  refine Nat.Coprime.pow_left 64 ?_
  rw [Nat.coprime_iff_gcd_eq_one, Nat.gcd_rec, ho]
  simp
/-- The product that a context's Mul gives. -/
def mm (m x y : Nat) : Nat := x * y * ri m % m
theorem mm_lt {m : Nat} (hm : 0 < m) (x y : Nat) : mm m x y < m := Nat.mod_lt _ hm
theorem mm_R {m : Nat} (ho : m % 2 = 1) (x y : Nat) : mm m x y * R % m = x * y % m := by
  unfold mm
  rw [Nat.mod_mul_mod, Nat.mul_assoc, Nat.mul_comm (ri m), Nat.mul_mod, ri_spec ho, ← Nat.mul_mod, Nat.mul_one]
theorem mm_of {m x y r : Nat} (hm : 0 < m) (ho : m % 2 = 1) (hr : r < m) (h : r * R % m = x * y % m) : r = mm m x y :=
  cancel (coprime_R ho) hr (mm_lt hm _ _) (by rw [h, mm_R ho])
theorem mm_mod {m x y : Nat} : mm m (x % m) (y % m) = mm m x y := by
  unfold mm
  rw [Nat.mul_mod (x % m * (y % m)), ← Nat.mul_mod x y, ← Nat.mul_mod]
theorem mm_comm (m x y : Nat) : mm m x y = mm m y x := by unfold mm; rw [Nat.mul_comm x]
/-- What stands for a number, times another one. -/
theorem mm_form {m : Nat} (hm : 0 < m) (ho : m % 2 = 1) (a b : Nat) : mm m (mform m a) b = a * b % m := by
  refine (mm_of hm ho (Nat.mod_lt _ hm) ?_).symm
  unfold mform
  rw [Nat.mod_mul_mod, Nat.mod_mul_mod, Nat.mul_right_comm]
theorem mm_form2 {m : Nat} (hm : 0 < m) (ho : m % 2 = 1) (a b : Nat) : mm m (mform m a) (mform m b) = mform m (a * b) := by
  rw [mm_form hm ho]
  unfold mform
  rw [Nat.mul_mod_mod, Nat.mul_assoc]
theorem mm_in {m : Nat} (hm : 0 < m) (ho : m % 2 = 1) (a : Nat) : mm m a (R * R % m) = mform m a := by
  refine (mm_of hm ho (mform_lt hm _) ?_).symm
  unfold mform
  rw [Nat.mod_mul_mod, Nat.mul_mod_mod, Nat.mul_assoc]
theorem mm_out {m : Nat} (hm : 0 < m) (ho : m % 2 = 1) (a : Nat) : mm m (mform m a) 1 = a % m := by rw [mm_form hm ho, Nat.mul_one]
/-- What 'reduce' gives, of a product. -/
theorem redc_mm {m t x y low high : Nat} (hm : 0 < m) (ho : m % 2 = 1) (ht : (t * m + 1) % R = 0) (hl : low < R) (hh : high < m) (e : high * R + low = x * y) : redc m t high low = mm m x y := by
  have h := redc_spec (m := m) hl hh ht
  rw [e] at h
  exact mm_of hm ho h.1 h.2
theorem mform_one (m : Nat) : mform m 1 = R % m := by unfold mform; rw [Nat.one_mul]
theorem mform_mod (m a : Nat) : mform m (a % m) = mform m a := by unfold mform; rw [Nat.mod_mul_mod]
theorem mform_inj {m a b : Nat} (hm : 0 < m) (ho : m % 2 = 1) (h : mform m a = mform m b) : a % m = b % m := by
  refine cancel (coprime_R ho) (Nat.mod_lt _ hm) (Nat.mod_lt _ hm) ?_
  rw [Nat.mod_mul_mod, Nat.mod_mul_mod]
  exact h
/-- What 'Pow' reckons: the exponent's bits, the lowest first. -/
theorem pow_step (a e : Nat) (x : Nat) : (if e % 2 = 1 then a * x else a) * (x * x) ^ (e / 2) = a * x ^ e := by
  have h : x ^ e = (x * x) ^ (e / 2) * x ^ (e % 2) := by
    rw [← Nat.pow_two, ← Nat.pow_mul, ← Nat.pow_add]
    congr 1
    omega
  rw [h]
  rcases Nat.mod_two_eq_zero_or_one e with h0 | h0 <;> rw [h0]
  · simp
  · simp [Nat.mul_assoc, Nat.mul_comm]
end Go.Proofs.YtpkpadepccneeaaGreatDoor.Mg

/- The walks of mont: a context that lies in memory, reduce, Mul, In, Out, One, Pow, Add, Neg, Sub. No condition. -/
namespace Go.Proofs.YtpkpadepccneeaaGreatDoor
open Go.RowKit
set_option linter.unusedVariables false
/-- A context of an odd modulus lies at a block's head. -/
structure MC (w : World) (g : Nat) (m : Nat) : Prop where
  odd : m % 2 = 1
  low : 3 ≤ m
  high : m < 9223372036854775808
  cells : ∃ t : Nat, t < Mg.R ∧ (t * m + 1) % Mg.R = 0 ∧ w.cell? ⟨g, 0, none⟩ = some (.int .u64 m) ∧ w.cell? ⟨g, 1, none⟩ = some (.int .u64 t) ∧ w.cell? ⟨g, 2, none⟩ = some (.int .u64 (Mg.R % m : Nat)) ∧ w.cell? ⟨g, 3, none⟩ = some (.int .u64 (Mg.R * Mg.R % m : Nat))
theorem MC.below {w w1 : World} {g m : Nat} (h : MC w g m) (hb : Below w.heap.size w w1) : MC w1 g m := by
  obtain ⟨t, h1, h2, c0, c1, c2, c3⟩ := h.cells
  exact ⟨h.odd, h.low, h.high, t, h1, h2, bcell hb c0, bcell hb c1, bcell hb c2, bcell hb c3⟩
theorem MC.drewN {w : World} {g m : Nat} (h : MC w g m) (n : Nat) : MC (w.drewN n) g m := ⟨h.odd, h.low, h.high, h.cells⟩
theorem add64 (x y c : Int) (hx : 0 ≤ x) (hy : 0 ≤ y) (hc0 : 0 ≤ c) (hc : c ≤ 1) (w : World) : (callFunc 217 #[.int .u64 x, .int .u64 y, .int .u64 c]).run Tryz.prog w =
    .ok (.value (.tuple #[.int .u64 ((x + y + c) % 18446744073709551616), .int .u64 ((x + y + c) / 18446744073709551616)])) w := by
  obtain ⟨x, rfl⟩ := Int.eq_ofNat_of_zero_le hx
  obtain ⟨y, rfl⟩ := Int.eq_ofNat_of_zero_le hy
  obtain ⟨c, rfl⟩ := Int.eq_ofNat_of_zero_le hc0
  refine (Any7.bits_Add64 Tryz.lays7_25 x y c (by omega) w).trans ?_
  congr 5 <;> omega
theorem add64_0 (x y : Int) (hx : 0 ≤ x) (hy : 0 ≤ y) (w : World) : (callFunc 217 #[.int .u64 x, .int .u64 y, .int .u64 0]).run Tryz.prog w =
    .ok (.value (.tuple #[.int .u64 ((x + y) % 18446744073709551616), .int .u64 ((x + y) / 18446744073709551616)])) w := by
  simpa using add64 x y 0 hx hy (Int.le_refl 0) (by decide) w
theorem cut_any (g m x : Nat) (hx : x < Mg.R) (w : World) (hc : MC w g m) :
    Calls Tryz.prog 158 #[.pointer (some ⟨g, 0, none⟩), .int .u64 x] w fun e w' => e = .returned (.int .u64 ((x % m : Nat) : Int)) ∧ w = w' := by
  have h1 := hc.low
  obtain ⟨t, h3, h4, c0, c1, c2, c3⟩ := hc.cells
  have hm : ¬ (m : Int) = 0 := by omega
  clear hc c1 c2 c3
  by_cases hlt : m ≤ x
  · have g1 : decide ((m : Int) ≤ x) = true := by simp; omega
    have e : (x : Int) % m = ((x % m : Nat) : Int) := by omega
    go_enter Tryz.func158, Tryz.ntmps158
    go_wp2_with fail
    go_ret
    exact ⟨rfl, rfl⟩
  · have g1 : decide ((m : Int) ≤ x) = false := by simp; omega
    rw [Nat.mod_eq_of_lt (by omega)]
    go_enter Tryz.func158, Tryz.ntmps158
    go_wp2_with fail
    go_ret
    exact ⟨rfl, rfl⟩
theorem Mul64_any (x y : Nat) (hx : x < 18446744073709551616) (hy : y < 18446744073709551616) (w : World) :
    Calls Tryz.prog 100 #[.int .u64 x, .int .u64 y] w fun e w' => e = .returned (.tuple #[.int .u64 ((x * y / 18446744073709551616 : Nat) : Int), .int .u64 ((x * y % 18446744073709551616 : Nat) : Int)]) ∧ w = w' :=
  (Tryz.bits_Mul64 x y hx hy w).mono fun _ _ h => ⟨h.1, h.2.symm⟩
set_option maxHeartbeats 1000000 in
theorem reduce_any (g m hi lo : Nat) (w : World) (hc : MC w g m) (hl : lo < Mg.R) (hh : hi < m) :
    Calls Tryz.prog 157 #[.pointer (some ⟨g, 0, none⟩), .int .u64 hi, .int .u64 lo] w fun e w' => ∃ t : Nat, (t * m + 1) % Mg.R = 0 ∧ e = .returned (.int .u64 ((Mg.redc m t hi lo : Nat) : Int)) ∧ Drawn w w' := by
  obtain ⟨t, h3, h4, c0, c1, c2, c3⟩ := hc.cells
  have h0 := hc.low
  have h1 := hc.high
  have hs := Mg.redc_sum (m := m) (t := t) (high := hi) hl h4
  have hlt := (Mg.redc_spec hl hh h4).1
  have HU : Mg.redc m t hi lo = (if m ≤ hi + lo * t % Mg.R * m / Mg.R + (if Mg.R ≤ lo + lo * t % Mg.R * m % Mg.R then 1 else 0) then hi + lo * t % Mg.R * m / Mg.R + (if Mg.R ≤ lo + lo * t % Mg.R * m % Mg.R then 1 else 0) - m else hi + lo * t % Mg.R * m / Mg.R + (if Mg.R ≤ lo + lo * t % Mg.R * m % Mg.R then 1 else 0)) := rfl
  clear hc c2 c3
  have e1 : IntKind.u64.wrap ((lo : Int) * t) = ((lo * t % Mg.R : Nat) : Int) := by rw [IntKind.wrap_u64]; simp [Mg.R]
  have hq : lo * t % Mg.R < 18446744073709551616 := Nat.mod_lt _ (by decide)
  have CM := Lib.hid fun (n : Nat) => Mul64_any (lo * t % Mg.R) m hq (by omega) (w.drewN n)
  generalize lo * t % Mg.R = q at *
  have a1 : q * m % Mg.R < 18446744073709551616 := Nat.mod_lt _ (by decide)
  have a2 : q * m / Mg.R < m := Nat.div_lt_of_lt_mul (Nat.mul_lt_mul_of_pos_right hq (by omega))
  rw [show (18446744073709551616 : Nat) = Mg.R from rfl] at CM
  generalize q * m % Mg.R = L at *
  generalize q * m / Mg.R = A at *
  have d0 : (0 : Int) ≤ (lo : Int) := by omega
  have d1 : (0 : Int) ≤ (L : Int) := by omega
  have d2 : (0 : Int) ≤ (hi : Int) := by omega
  have d3 : (0 : Int) ≤ (A : Int) := by omega
  obtain ⟨cy, hcy, hcy1, ecy⟩ : ∃ cy : Nat, (if Mg.R ≤ lo + L then 1 else 0) = cy ∧ cy ≤ 1 ∧ ((lo : Int) + L) / 18446744073709551616 = cy := by
    simp only [Mg.R] at *
    by_cases h : 18446744073709551616 ≤ lo + L
    · exact ⟨1, by simp [h], by omega, by omega⟩
    · exact ⟨0, by simp [h], by omega, by omega⟩
  rw [hcy] at HU
  have d4 : (0 : Int) ≤ (cy : Int) := by omega
  have d5 : (cy : Int) ≤ 1 := by omega
  have e3 : ((hi : Int) + A + cy) % 18446744073709551616 = ((hi + A + cy : Nat) : Int) := by omega
  obtain ⟨r, hr⟩ : ∃ r, r = hi + A + cy := ⟨_, rfl⟩
  rw [← hr] at HU e3
  have HU := Lib.hid HU
  clear hr hs hcy
  by_cases hlt2 : m ≤ r
  · have g1 : decide ((m : Int) ≤ r) = true := by simp; omega
    have e4 : IntKind.u64.wrap ((r : Int) - m) = ((r - m : Nat) : Int) := by rw [IntKind.wrap_u64]; omega
    go_enter Tryz.func157, Tryz.ntmps157
    go_wp2_with fail
    go_quiet ((go_at_call 100; exact quietB (CM.out _)))
    go_wp2_with (first | simp only [add64_0 (lo : Int) (L : Int) d0 d1] | simp only [add64 (hi : Int) (A : Int) (cy : Int) d2 d3 d4 d5])
    go_ret
    exact ⟨t, h4, by rw [HU.out, if_pos hlt2]; rfl, ⟨_, rfl⟩⟩
  · have g1 : decide ((m : Int) ≤ r) = false := by simp; omega
    go_enter Tryz.func157, Tryz.ntmps157
    go_wp2_with fail
    go_quiet ((go_at_call 100; exact quietB (CM.out _)))
    go_wp2_with (first | simp only [add64_0 (lo : Int) (L : Int) d0 d1] | simp only [add64 (hi : Int) (A : Int) (cy : Int) d2 d3 d4 d5])
    go_ret
    exact ⟨t, h4, by rw [HU.out, if_neg hlt2]; rfl, ⟨_, rfl⟩⟩
theorem MC.pos {w : World} {g m : Nat} (h : MC w g m) : 0 < m := by have := h.low; omega
theorem redc_prod {m t x y : Nat} (hm : 0 < m) (ho : m % 2 = 1) (ht : (t * m + 1) % Mg.R = 0) (hx : x < m) (hy : y < m) (hR : m < Mg.R) : x * y / Mg.R < m ∧ Mg.redc m t (x * y / Mg.R) (x * y % Mg.R) = Mg.mm m x y := by
  have h1 : x * y < m * Mg.R := Nat.lt_of_le_of_lt (Nat.mul_le_mul_right _ (Nat.le_of_lt hx)) ((Nat.mul_lt_mul_left hm).2 (by omega))
  have h2 : x * y / Mg.R < m := Nat.div_lt_of_lt_mul (by rw [Nat.mul_comm Mg.R m]; exact h1)
  exact ⟨h2, Mg.redc_mm hm ho ht (Nat.mod_lt _ (by decide)) h2 (by rw [Nat.mul_comm]; exact Nat.div_add_mod _ _)⟩
theorem mMul_any (g m x y : Nat) (w : World) (hc : MC w g m) (hx : x < Mg.R) (hy : y < Mg.R) :
    Calls Tryz.prog 149 #[.pointer (some ⟨g, 0, none⟩), .int .u64 x, .int .u64 y] w fun e w' => e = .returned (.int .u64 ((Mg.mm m x y : Nat) : Int)) ∧ Drawn w w' := by
  have hm := hc.pos
  have hR : m < Mg.R := by have := hc.high; simp only [Mg.R]; omega
  have bx := Nat.mod_lt x hm
  have by' := Nat.mod_lt y hm
  have C1 := Lib.hid (cut_any g m x hx w hc)
  have C2 := Lib.hid (cut_any g m y hy w hc)
  rw [← Mg.mm_mod]
  generalize x % m = p at *
  generalize y % m = q at *
  have C3 := Lib.hid (Mul64_any p q (by simp only [Mg.R] at hR; omega) (by simp only [Mg.R] at hR; omega) w)
  have hh := fun t ht => @redc_prod m t p q hm hc.odd ht bx by' hR
  rw [show (18446744073709551616 : Nat) = Mg.R from rfl] at C3
  have C4 := Lib.hid fun h => reduce_any g m (p * q / Mg.R) (p * q % Mg.R) w hc (Nat.mod_lt _ (by decide)) h
  have HH := Lib.hid hh
  clear hh
  generalize p * q / Mg.R = A at *
  generalize p * q % Mg.R = L at *
  go_enter Tryz.func149, Tryz.ntmps149
  go_wp2_with fail
  with_reducible refine C1.out.mono ?_
  rintro e w' ⟨rfl, rfl⟩
  go_wp2_with fail
  with_reducible refine C2.out.mono ?_
  rintro e w' ⟨rfl, rfl⟩
  go_wp2_with fail
  with_reducible refine C3.out.mono ?_
  rintro e w' ⟨rfl, rfl⟩
  go_wp2_with fail
  obtain ⟨t0, ht0, _⟩ := hc.cells.imp fun _ h => And.intro h.2.1 h.1
  with_reducible refine (C4.out (HH.out t0 ht0).1).mono ?_
  rintro e w' ⟨t, ht, rfl, hd⟩
  rw [(HH.out t ht).2]
  go_wp2_with fail
  go_ret
  exact ⟨rfl, hd⟩
theorem In_any (g m x : Nat) (w : World) (hc : MC w g m) (hx : x < Mg.R) :
    Calls Tryz.prog 104 #[.pointer (some ⟨g, 0, none⟩), .int .u64 x] w fun e w' => e = .returned (.int .u64 ((Mg.mform m x : Nat) : Int)) ∧ Drawn w w' := by
  obtain ⟨t, h1, h2, c0, c1, c2, c3⟩ := hc.cells
  have hm := hc.pos
  have hR : m < Mg.R := by have := hc.high; simp only [Mg.R]; omega
  have C := Lib.hid (mMul_any g m x (Mg.R * Mg.R % m) w hc hx (Nat.lt_trans (Nat.mod_lt _ hm) hR))
  rw [Mg.mm_in hm hc.odd] at C
  generalize Mg.R * Mg.R % m = s at *
  clear c0 c1 c2
  go_enter Tryz.func104, Tryz.ntmps104
  go_wp2_with fail
  with_reducible refine C.out.mono ?_
  rintro e w' ⟨rfl, hd⟩
  go_wp2_with fail
  go_ret
  exact ⟨rfl, hd⟩
theorem Out_any (g m x : Nat) (w : World) (hc : MC w g m) (hx : x < Mg.R) :
    Calls Tryz.prog 102 #[.pointer (some ⟨g, 0, none⟩), .int .u64 x] w fun e w' => e = .returned (.int .u64 ((Mg.mm m x 1 : Nat) : Int)) ∧ Drawn w w' := by
  have hm := hc.pos
  have hR : m < Mg.R := by have := hc.high; simp only [Mg.R]; omega
  have bx := Nat.mod_lt x hm
  have C1 := Lib.hid (cut_any g m x hx w hc)
  have e : Mg.mm m x 1 = Mg.mm m (x % m) 1 := by unfold Mg.mm; rw [Nat.mul_one, Nat.mul_one, Nat.mod_mul_mod]
  rw [e]
  generalize x % m = p at *
  have C2 := Lib.hid (reduce_any g m 0 p w hc (by omega) hm)
  rw [show ((0 : Nat) : Int) = 0 from rfl] at C2
  have HH := Lib.hid fun t ht => @Mg.redc_mm m t p 1 p 0 hm hc.odd ht (by omega) hm (by omega)
  go_enter Tryz.func102, Tryz.ntmps102
  go_wp2_with fail
  with_reducible refine C1.out.mono ?_
  rintro e w' ⟨rfl, rfl⟩
  go_wp2_with fail
  with_reducible refine C2.out.mono ?_
  rintro e w' ⟨t, ht, rfl, hd⟩
  rw [HH.out t ht]
  go_wp2_with fail
  go_ret
  exact ⟨rfl, hd⟩
theorem One_any (g m : Nat) (w : World) (hc : MC w g m) :
    Calls Tryz.prog 155 #[.pointer (some ⟨g, 0, none⟩)] w fun e w' => e = .returned (.int .u64 ((Mg.mform m 1 : Nat) : Int)) ∧ w = w' := by
  obtain ⟨t, h1, h2, c0, c1, c2, c3⟩ := hc.cells
  rw [← Mg.mform_one] at c2
  clear c0 c1 c3
  go_enter Tryz.func155, Tryz.ntmps155
  go_wp2_with fail
  go_ret
  exact ⟨rfl, rfl⟩
set_option maxHeartbeats 1000000 in
theorem mPow_any (g m a k : Nat) (w : World) (hc : MC w g m) (hk : k < Mg.R) :
    Calls Tryz.prog 103 #[.pointer (some ⟨g, 0, none⟩), .int .u64 ((Mg.mform m a : Nat) : Int), .int .u64 k] w fun e w' => e = .returned (.int .u64 ((Mg.mform m (a ^ k) : Nat) : Int)) ∧ Drawn w w' := by
  obtain ⟨t, h1, h2, c0, c1, c2, c3⟩ := hc.cells
  have hm := hc.pos
  have ho := hc.odd
  have hR : m < Mg.R := by have := hc.high; simp only [Mg.R]; omega
  have hl : ∀ b, Mg.mform m b < Mg.R := fun b => Nat.lt_trans (Mg.mform_lt hm b) hR
  rw [← Mg.mform_one] at c2
  have C : Hid (∀ n b c : Nat, Calls Tryz.prog 149 #[.pointer (some ⟨g, 0, none⟩), .int .u64 ((Mg.mform m b : Nat) : Int), .int .u64 ((Mg.mform m c : Nat) : Int)] (w.drewN n) fun e w' => e = .returned (.int .u64 ((Mg.mform m (b * c) : Nat) : Int)) ∧ ∃ k, w' = w.drewN k) := Lib.hid fun n b c => by
    have := mMul_any g m (Mg.mform m b) (Mg.mform m c) (w.drewN n) (hc.drewN n) (hl b) (hl c)
    rw [Mg.mm_form2 hm ho] at this
    exact this.mono fun _ _ ⟨h, j, e⟩ => ⟨h, n + j, by rw [e, World.drewN_drewN]⟩
  clear c0 c1 c3 hc h2 h1 hl
  go_enter Tryz.func103, Tryz.ntmps103
  go_wp2_with fail
  go_loopw [7, 1, 2] (fun o x e wr => ∃ (b c d n : Nat), o = .int .u64 ((Mg.mform m b : Nat) : Int) ∧ x = .int .u64 ((Mg.mform m c : Nat) : Int) ∧ e = .int .u64 (d : Int) ∧ wr = w.drewN n ∧ d < Mg.R ∧ Hid (b * c ^ d = a ^ k)) (fun _ _ e _ => (intOf e).toNat)
  case atStart => exact ⟨1, a, k, 0, rfl, rfl, rfl, rfl, hk, Lib.hid (Nat.one_mul _)⟩
  case round =>
    obtain ⟨b, c, d, n, rfl, rfl, rfl, rfl, hd, H⟩ := hrel
    by_cases h0 : d = 0
    · subst h0
      go_wp2_with fail
      go_ret
      exact ⟨by rw [← H.out, Nat.pow_zero, Nat.mul_one]; rfl, ⟨n, rfl⟩⟩
    · have g0 : decide ((0 : Int) < d) = true := by simp; omega
      have hd2 : d / 2 < Mg.R := by omega
      have hd3 : d / 2 < d := by omega
      have hs := Mg.pow_step b d c
      rw [H.out] at hs
      have e2 : (d : Int) / 2 = ((d / 2 : Nat) : Int) := by omega
      generalize d / 2 = q at hd2 hd3 hs e2
      have C2 := Lib.hid fun n => C.out n c c
      by_cases hodd : d % 2 = 1
      · have e1 : bits .and .u64 (d : Int) 1 = 1 := by
          rw [show (1 : Int) = ((1 : Nat) : Int) from rfl, u64_and_nat _ _ (by simp only [Mg.R] at hd; omega) (by decide), Nat.and_one_is_mod, hodd]
        rw [if_pos hodd] at hs
        have HS := Lib.hid hs
        have C1 := Lib.hid (C.out n b c)
        have HD := Lib.hid hd2
        have HE := Lib.hid hd3
        clear hs hd hd2 hd3
        go_wp2_with fail
        with_reducible refine C1.out.mono ?_
        rintro e w' ⟨rfl, n1, rfl⟩
        go_wp2_with fail
        with_reducible refine (C2.out n1).mono ?_
        rintro e w' ⟨rfl, n2, rfl⟩
        go_wp2_with fail
        go_roundw
        case rel => exact ⟨b * c, c * c, q, n2, rfl, rfl, rfl, rfl, HD.out, HS⟩
        case measure => exact HE.out
      · have e1 : bits .and .u64 (d : Int) 1 = 0 := by
          rw [show (1 : Int) = ((1 : Nat) : Int) from rfl, u64_and_nat _ _ (by simp only [Mg.R] at hd; omega) (by decide), Nat.and_one_is_mod, show d % 2 = 0 by omega]
          rfl
        rw [if_neg hodd] at hs
        have HS := Lib.hid hs
        have HD := Lib.hid hd2
        have HE := Lib.hid hd3
        clear hs hd hd2 hd3
        go_wp2_with fail
        with_reducible refine (C2.out n).mono ?_
        rintro e w' ⟨rfl, n2, rfl⟩
        go_wp2_with fail
        go_roundw
        case rel => exact ⟨b, c * c, q, n2, rfl, rfl, rfl, rfl, HD.out, HS⟩
        case measure => exact HE.out
end Go.Proofs.YtpkpadepccneeaaGreatDoor

/- The walks of math/bits.Rem64 and of mont.New, Add, Neg, Sub. No condition. -/
namespace Go.Proofs.YtpkpadepccneeaaGreatDoor
open Go.RowKit
set_option linter.unusedVariables false
theorem Div64_small (lo y : Int) (h1 : 0 ≤ lo) (h2 : lo ≤ 18446744073709551615) (h3 : 0 < y) (h4 : y ≤ 18446744073709551615) (w : World) :
    Calls Tryz.prog 156 #[.int .u64 0, .int .u64 lo, .int .u64 y] w fun e w' => ∃ q : Int, e = .returned (.tuple #[.int .u64 q, .int .u64 (lo % y)]) ∧ Drawn w w' := by
  have hy : ¬ y = 0 := by omega
  have g1 : decide (y ≤ 0) = false := by simp; omega
  go_enter Tryz.func156, Tryz.ntmps156
  go_wp2_with fail
  go_quiet (fail)
  go_wp2_with fail
  go_ret2
  exact ⟨_, rfl, _, rfl⟩
theorem Rem64_any (hi lo y : Nat) (h1 : hi < Mg.R) (h2 : lo < Mg.R) (h3 : 0 < y) (h4 : y < Mg.R) (w : World) :
    Calls Tryz.prog 101 #[.int .u64 hi, .int .u64 lo, .int .u64 y] w fun e w' => e = .returned (.int .u64 (((hi * Mg.R + lo) % y : Nat) : Int)) ∧ Drawn w w' := by
  have hy : ¬ (y : Int) = 0 := by omega
  have hm := Nat.mod_lt hi h3
  have e1 : (hi : Int) % y = ((hi % y : Nat) : Int) := by omega
  have hE : (hi * Mg.R + lo) % y = (hi % y * Mg.R + lo) % y := by rw [Nat.add_mod (hi % y * Mg.R), Nat.mod_mul_mod, ← Nat.add_mod]
  have C : Hid (Calls Tryz.prog 156 #[.int .u64 ((hi % y : Nat) : Int), .int .u64 lo, .int .u64 y] w fun e w' => ∃ q : Int, e = .returned (.tuple #[.int .u64 q, .int .u64 (((hi * Mg.R + lo) % y : Nat) : Int)]) ∧ Drawn w w') := by
    refine Lib.hid ?_
    rw [hE]
    clear hE e1
    generalize hi % y = p at *
    simp only [Mg.R] at *
    by_cases h0 : p = 0
    · subst h0
      rw [Nat.zero_mul, Nat.zero_add]
      exact Div64_small lo y (by omega) (by omega) (by omega) (by omega) w
    · have := Div64_big p lo y (by omega) (by omega) (by omega) (by omega) (by omega) (by omega) w
      have e : ((p : Int) * 18446744073709551616 + (lo : Int)) % (y : Int) = (((p * 18446744073709551616 + lo) % y : Nat) : Int) := by
        rw [Int.natCast_emod, Int.natCast_add, Int.natCast_mul]; rfl
      rw [e] at this
      exact this
  clear hE hm
  generalize hi % y = p at *
  generalize (hi * Mg.R + lo) % y = r at *
  go_enter Tryz.func101, Tryz.ntmps101
  go_wp2_with fail
  with_reducible refine C.out.mono ?_
  rintro e w' ⟨q, rfl, hd⟩
  go_wp2_with fail
  go_ret
  exact ⟨rfl, hd⟩
/-- So many bits of the inverse are right. -/
def Nw (m x : Int) (k : Nat) : Prop := (2 : Int) ^ (min (3 * 2 ^ k) 64) ∣ 1 - m * x
theorem Nw.zero {m : Int} (h : m % 2 = 1) : Nw m m 0 := Mg.odd_square h
theorem Nw.wrap {m y : Int} {j : Nat} (hj : j ≤ 64) (h : (2 : Int) ^ j ∣ 1 - m * y) : (2 : Int) ^ j ∣ 1 - m * (y % 18446744073709551616) := by
  have e : 1 - m * (y % 18446744073709551616) = (1 - m * y) + m * (y / 18446744073709551616) * 18446744073709551616 := by
    have h := Int.emod_add_mul_ediv y 18446744073709551616
    have e2 : y % 18446744073709551616 = y - y / 18446744073709551616 * 18446744073709551616 := by omega
    rw [e2, Int.mul_sub, Int.mul_assoc]
    omega
  rw [e]
  refine Int.dvd_add h (Int.dvd_trans ?_ (Int.dvd_mul_left _ _))
  rw [show (18446744073709551616 : Int) = 2 ^ j * 2 ^ (64 - j) by rw [← Int.pow_add, show j + (64 - j) = 64 by omega]; rfl]
  exact Int.dvd_mul_right _ _
theorem Nw.step {m x : Int} {k : Nat} (hk : k < 5) (h : Nw m x k) : Nw m (x * (2 - m * x) % 18446744073709551616) (k + 1) := by
  have h64 : 3 * 2 ^ k ≤ 64 := by
    have : k = 0 ∨ k = 1 ∨ k = 2 ∨ k = 3 ∨ k = 4 := by omega
    rcases this with rfl | rfl | rfl | rfl | rfl <;> decide
  unfold Nw at *
  rw [Nat.min_eq_left h64] at h
  have h2 := Mg.newton h
  refine Nw.wrap (Nat.min_le_right _ _) (Int.dvd_trans ?_ h2)
  obtain ⟨d, hd⟩ : ∃ d, 2 * (3 * 2 ^ k) = min (3 * 2 ^ (k + 1)) 64 + d := ⟨2 * (3 * 2 ^ k) - min (3 * 2 ^ (k + 1)) 64, by rw [Nat.pow_succ]; omega⟩
  rw [hd, Int.pow_add]
  exact Int.dvd_mul_right _ _
theorem wraps (m x : Int) : IntKind.u64.wrap (x * IntKind.u64.wrap (2 - IntKind.u64.wrap (m * x))) = x * (2 - m * x) % 18446744073709551616 := by
  simp only [IntKind.wrap_u64]
  rw [Int.mul_emod, Int.emod_emod, Int.sub_emod, Int.emod_emod, ← Int.sub_emod, ← Int.mul_emod]
set_option maxHeartbeats 1000000 in
theorem mNew_ok (m : Nat) (w : World) (ho : m % 2 = 1) (h3 : 3 ≤ m) (h4 : m < 9223372036854775808) :
    Calls Tryz.prog 56 #[.int .u64 m] w fun e w' => ∃ g, e = .returned (.tuple #[.pointer (some ⟨g, 0, none⟩), .int .i64 0]) ∧ MC w' g m ∧ w.heap.size ≤ g ∧ Below w.heap.size w w' := by
  have e1 : bits .and .u64 (m : Int) 1 = 1 := by
    rw [show (1 : Int) = ((1 : Nat) : Int) from rfl, u64_and_nat _ _ (by omega) (by decide), Nat.and_one_is_mod, ho]
  have g1 : decide ((m : Int) < 3) = false := by simp; omega
  have g2 : decide ((9223372036854775808 : Int) ≤ m) = false := by simp; omega
  have e2 : IntKind.u64.wrap (-(m : Int)) = ((Mg.R - m : Nat) : Int) := by rw [IntKind.wrap_u64]; simp only [Mg.R]; omega
  have e3 : ((Mg.R - m : Nat) : Int) % m = ((Mg.R % m : Nat) : Int) := by
    rw [← Int.natCast_emod]
    congr 1
    rw [show Mg.R = (Mg.R - m) + m by simp only [Mg.R]; omega, Nat.add_sub_cancel, Nat.add_mod_right]
  have hm : ¬ (m : Int) = 0 := by omega
  have hR : m < Mg.R := by simp only [Mg.R]; omega
  have o1 := Nat.mod_lt Mg.R (show 0 < m by omega)
  have e4 : (Mg.R % m * (Mg.R % m)) % m = Mg.R * Mg.R % m := by rw [← Nat.mul_mod]
  have W := wraps (m : Int)
  have st := Nw.zero (show (m : Int) % 2 = 1 by omega)
  have fin : ∀ x : Int, 0 ≤ x → x < 18446744073709551616 → Nw m x 5 → ∃ t : Nat, t < Mg.R ∧ (t * m + 1) % Mg.R = 0 ∧ IntKind.u64.wrap (-x) = t := by
    intro x h0 h1 h
    obtain ⟨x, rfl⟩ := Int.eq_ofNat_of_zero_le h0
    have hd : (18446744073709551616 : Int) ∣ 1 - (m : Int) * x := h
    refine ⟨(Mg.R - x) % Mg.R, Nat.mod_lt _ (by decide), ?_, by rw [IntKind.wrap_u64]; simp only [Mg.R]; omega⟩
    rw [Nat.add_mod, Nat.mod_mul_mod, ← Nat.add_mod, Nat.sub_mul]
    obtain ⟨c, hc⟩ := hd
    have h2 : x * m ≤ Mg.R * m := Nat.mul_le_mul_right _ (by simp only [Mg.R]; omega)
    have h3 : ((Mg.R * m - x * m + 1 : Nat) : Int) = 18446744073709551616 * (m + c) := by
      rw [Int.natCast_add, Int.natCast_sub h2, Int.natCast_mul, Int.natCast_mul, Int.mul_add, ← hc, Int.mul_comm (x : Int)]
      simp only [Mg.R]
      omega
    simp only [Mg.R] at *
    omega
  have CM := Lib.hid (Mul64_any (Mg.R % m) (Mg.R % m) (by simp only [Mg.R] at *; omega) (by simp only [Mg.R] at *; omega) w)
  have hp : Mg.R % m * (Mg.R % m) / 18446744073709551616 < Mg.R := by
    have : Mg.R % m * (Mg.R % m) < Mg.R * Mg.R := Nat.mul_lt_mul_of_lt_of_lt (by omega) (by omega)
    exact Nat.div_lt_of_lt_mul this
  have CR := Lib.hid (Rem64_any (Mg.R % m * (Mg.R % m) / 18446744073709551616) (Mg.R % m * (Mg.R % m) % 18446744073709551616) m hp (Nat.mod_lt _ (by decide)) (by omega) hR w)
  have e5 : (Mg.R % m * (Mg.R % m) / 18446744073709551616 * Mg.R + Mg.R % m * (Mg.R % m) % 18446744073709551616) % m = Mg.R * Mg.R % m := by
    rw [← e4, Nat.mul_comm _ Mg.R, show (18446744073709551616 : Nat) = Mg.R from rfl, Nat.div_add_mod]
  rw [e5] at CR
  have FIN := Lib.hid fin
  have ST := Lib.hid st
  clear e4 e5 hp st fin
  generalize hO : Mg.R % m = one at *
  generalize hS : Mg.R * Mg.R % m = sq at *
  generalize one * one / 18446744073709551616 = A at *
  generalize one * one % 18446744073709551616 = L at *
  have HO := Lib.hid hO
  have HS := Lib.hid hS
  clear hO hS hR o1
  generalize Mg.R - m = nm at *
  go_enter Tryz.func56, Tryz.ntmps56
  go_wp2_with fail
  go_loop [4, 20] (fun x k => ∃ (y : Int) (j : Nat), x = .int .u64 y ∧ k = .int .i64 j ∧ j ≤ 5 ∧ 0 ≤ y ∧ y < 18446744073709551616 ∧ Hid (Nw m y j)) (fun _ k => 5 - (intOf k).toNat)
  case atStart => exact ⟨m, 0, rfl, rfl, by omega, by omega, by omega, ST⟩
  case round =>
    obtain ⟨y, j, rfl, rfl, hj, hy0, hy1, HN⟩ := hrel
    by_cases hlt : j < 5
    · have Wy := W y
      have HN2 := Lib.hid (Nw.step hlt HN.out)
      have b0 := Int.emod_nonneg (y * (2 - (m : Int) * y)) (show (18446744073709551616 : Int) ≠ 0 by decide)
      have b1 := Int.emod_lt_of_pos (y * (2 - (m : Int) * y)) (show (0 : Int) < 18446744073709551616 by decide)
      generalize y * (2 - (m : Int) * y) % 18446744073709551616 = y2 at *
      clear W
      go_wp2_with fail
      go_round
      case rel => exact ⟨y2, j + 1, rfl, by go_num, by omega, b0, b1, HN2⟩
      case measure => simp [intOf]; omega
    · obtain rfl : j = 5 := by omega
      obtain ⟨t, t1, t2, t3⟩ := FIN.out y hy0 hy1 HN.out
      have T1 := Lib.hid t1
      have T2 := Lib.hid t2
      clear t1 t2 W
      go_wp2_with fail
      with_reducible refine CM.out.mono ?_
      rintro e w' ⟨rfl, rfl⟩
      go_wp2_with fail
      with_reducible refine CR.out.mono ?_
      rintro e w' ⟨rfl, nn, rfl⟩
      go_wp2_with fail
      go_ret2
      have hb : Below w.heap.size w ((w.alloc (.cells #[.int .u64 m, .int .u64 t, .int .u64 one, .int .u64 sq] 191)).drewN nn) := below_drewN ((Below.refl _ _).alloc (Nat.le_refl _) _) nn
      have hk := Blk.new w 191 #[.int .u64 m, .int .u64 t, .int .u64 one, .int .u64 sq]
      exact ⟨_, rfl, ⟨ho, h3, h4, t, T1.out, T2.out, hk.cell 0, hk.cell 1, by rw [HO.out]; exact hk.cell 2, by rw [HS.out]; exact hk.cell 3⟩, Nat.le_refl _, hb⟩
theorem mNew_bad (m : Nat) (w : World) (hm : m < Mg.R) (ho : m % 2 = 0 ∨ m < 3 ∨ 9223372036854775808 ≤ m) :
    Calls Tryz.prog 56 #[.int .u64 m] w fun e w' => e = .returned (.tuple #[.pointer none, .int .i64 1]) ∧ w = w' := by
  have e1 := and_one m (by simp only [Mg.R] at hm; omega)
  clear hm
  by_cases h2 : m % 2 = 0
  · rw [h2] at e1
    go_enter Tryz.func56, Tryz.ntmps56
    go_wp2_with fail
    go_ret2
    exact ⟨rfl, rfl⟩
  · rw [show m % 2 = 1 by omega] at e1
    by_cases h3 : m < 3
    · have g1 : decide ((m : Int) < 3) = true := by simp; omega
      go_enter Tryz.func56, Tryz.ntmps56
      go_wp2_with fail
      go_ret2
      exact ⟨rfl, rfl⟩
    · have g1 : decide ((m : Int) < 3) = false := by simp; omega
      have g2 : decide ((9223372036854775808 : Int) ≤ m) = true := by simp; omega
      go_enter Tryz.func56, Tryz.ntmps56
      go_wp2_with fail
      go_ret2
      exact ⟨rfl, rfl⟩
theorem add_of {m x y : Nat} (hx : x < m) (hy : y < m) : (if m ≤ x + y then x + y - m else x + y) = (x + y) % m := by
  split
  · rw [Nat.mod_eq_sub_mod (by omega), Nat.mod_eq_of_lt (by omega)]
  · rw [Nat.mod_eq_of_lt (by omega)]
theorem mAdd_any (g m x y : Nat) (w : World) (hc : MC w g m) (hx : x < Mg.R) (hy : y < Mg.R) :
    Calls Tryz.prog 148 #[.pointer (some ⟨g, 0, none⟩), .int .u64 x, .int .u64 y] w fun e w' => e = .returned (.int .u64 (((x + y) % m : Nat) : Int)) ∧ w = w' := by
  have hm := hc.pos
  have hR := hc.high
  obtain ⟨t, h3, h4, c0, c1, c2, c3⟩ := hc.cells
  have bx := Nat.mod_lt x hm
  have by' := Nat.mod_lt y hm
  have C1 := Lib.hid (cut_any g m x hx w hc)
  have C2 := Lib.hid (cut_any g m y hy w hc)
  have HA := Lib.hid (add_of bx by')
  rw [Nat.add_mod]
  clear hc c1 c2 c3
  generalize x % m = p at *
  generalize y % m = q at *
  rw [← HA.out]
  have e1 : IntKind.u64.wrap ((p : Int) + q) = ((p + q : Nat) : Int) := by rw [IntKind.wrap_u64]; omega
  have e2 : IntKind.u64.wrap ((p : Int) + q - m) = ((p + q - m : Nat) : Int) ∨ ¬ m ≤ p + q := by rw [IntKind.wrap_u64]; omega
  by_cases hlt : m ≤ p + q
  · have g1 : decide ((m : Int) ≤ (p : Int) + q) = true := by simp; omega
    have e3 : (p : Int) + q - m = ((p + q - m : Nat) : Int) := by omega
    have e4 : IntKind.u64.wrap ((p : Int) + q - m) = (p : Int) + q - m := w_small (by omega) (by omega)
    have e5 : IntKind.u64.wrap ((p : Int) + q) = (p : Int) + q := w_small (by omega) (by omega)
    rw [if_pos hlt, ← e3]
    clear e1 e2 e3
    go_enter Tryz.func148, Tryz.ntmps148
    go_wp2_with fail
    with_reducible refine C1.out.mono ?_
    rintro e w' ⟨rfl, rfl⟩
    go_wp2_with fail
    with_reducible refine C2.out.mono ?_
    rintro e w' ⟨rfl, rfl⟩
    go_wp2_with fail
    go_ret
    exact ⟨rfl, rfl⟩
  · have g1 : decide ((m : Int) ≤ (p : Int) + q) = false := by simp; omega
    have e5 : IntKind.u64.wrap ((p : Int) + q) = (p : Int) + q := w_small (by omega) (by omega)
    rw [if_neg hlt, Int.natCast_add]
    clear e1 e2
    go_enter Tryz.func148, Tryz.ntmps148
    go_wp2_with fail
    with_reducible refine C1.out.mono ?_
    rintro e w' ⟨rfl, rfl⟩
    go_wp2_with fail
    with_reducible refine C2.out.mono ?_
    rintro e w' ⟨rfl, rfl⟩
    go_wp2_with fail
    go_ret
    exact ⟨rfl, rfl⟩
theorem mNeg_any (g m x : Nat) (w : World) (hc : MC w g m) (hx : x < Mg.R) :
    Calls Tryz.prog 210 #[.pointer (some ⟨g, 0, none⟩), .int .u64 x] w fun e w' => e = .returned (.int .u64 (((m - x % m) % m : Nat) : Int)) ∧ w = w' := by
  have hm := hc.pos
  have hR := hc.high
  obtain ⟨t, h3, h4, c0, c1, c2, c3⟩ := hc.cells
  have bx := Nat.mod_lt x hm
  have C1 := Lib.hid (cut_any g m x hx w hc)
  clear hc c1 c2 c3
  generalize x % m = p at *
  by_cases h0 : p = 0
  · subst h0
    rw [Nat.sub_zero, Nat.mod_self]
    rw [show ((0 : Nat) : Int) = 0 from rfl] at *
    go_enter Tryz.func210, Tryz.ntmps210
    go_wp2_with fail
    with_reducible refine C1.out.mono ?_
    rintro e w' ⟨rfl, rfl⟩
    go_wp2_with fail
    go_ret
    exact ⟨rfl, rfl⟩
  · have g1 : ((p : Int) == 0) = false := by simp; omega
    have e4 : IntKind.u64.wrap ((m : Int) - p) = (m : Int) - p := w_small (by omega) (by omega)
    rw [Nat.mod_eq_of_lt (by omega), Int.natCast_sub (by omega)]
    go_enter Tryz.func210, Tryz.ntmps210
    go_wp2_with fail
    with_reducible refine C1.out.mono ?_
    rintro e w' ⟨rfl, rfl⟩
    go_wp2_with fail
    go_ret
    exact ⟨rfl, rfl⟩
theorem mSub_any (g m x y : Nat) (w : World) (hc : MC w g m) (hx : x < Mg.R) (hy : y < Mg.R) :
    Calls Tryz.prog 150 #[.pointer (some ⟨g, 0, none⟩), .int .u64 x, .int .u64 y] w fun e w' => e = .returned (.int .u64 (((x + (m - y % m)) % m : Nat) : Int)) ∧ w = w' := by
  have hm := hc.pos
  have hR := hc.high
  have hl : (m - y % m) % m < Mg.R := Nat.lt_trans (Nat.mod_lt _ hm) (by simp only [Mg.R]; omega)
  have C1 := Lib.hid (mNeg_any g m y w hc hy)
  have C2 := Lib.hid (mAdd_any g m x ((m - y % m) % m) w hc hx hl)
  rw [Nat.add_mod_mod] at C2
  clear hl
  generalize (m - y % m) % m = p at *
  generalize (x + (m - y % m)) % m = q at *
  go_enter Tryz.func150, Tryz.ntmps150
  go_wp2_with fail
  with_reducible refine C1.out.mono ?_
  rintro e w' ⟨rfl, rfl⟩
  go_wp2_with fail
  with_reducible refine C2.out.mono ?_
  rintro e w' ⟨rfl, rfl⟩
  go_wp2_with fail
  go_ret
  exact ⟨rfl, rfl⟩
end Go.Proofs.YtpkpadepccneeaaGreatDoor
