/- The walks of chapter 9's functions: Size. No condition. -/
import Derived.Test.YtmofdjddjkjogaaBase
import Derived.Test.YtmofdjddjkjogaaDMath
namespace Go.Proofs.Ytmofdjddjkjogaa
open Go.RowKit

set_option maxHeartbeats 400000 in
theorem size_any (A : Option Addr) (c : Nat) (l : List Int) (w : World) (hr : RI .i64 w A l) (hm : l.length ≤ 9223372036854775807) :
    Calls Try.prog 14 #[.slice A l.length c] w fun e w' => e = .returned (.tuple #[.int .i64 (D.sizeD l).1, .int .i64 (D.sizeD l).2]) ∧ w = w' := by
  by_cases h12 : 12 < l.length
  · have hd := Lib.hid (show D.sizeD l = (0, 1) by unfold D.sizeD; rw [if_pos h12])
    go_enter Try.func14, Try.ntmps14
    go_wp2
    go_ret2
    rw [hd.out]
    exact ⟨rfl, rfl⟩
  · have hd := Lib.hid (show D.sizeD l = D.sizeL 1 false l by unfold D.sizeD; rw [if_neg h12])
    have hr' := Lib.hid hr
    clear hr
    go_enter Try.func14, Try.ntmps14
    go_wp2
    go_loop [4, 5, 13] (fun n b i => ∃ (k : Nat) (x : Int) (y : Bool), k ≤ l.length ∧ i = .int .i64 k ∧ n = .int .i64 x ∧ b = .bool y ∧ 1 ≤ x ∧ x ≤ 4096 ∧ Hid (D.sizeL x y (l.drop k) = D.sizeD l)) (fun _ _ i => l.length - (intOf i).toNat)
    case atStart => exact ⟨0, 1, false, by omega, rfl, rfl, rfl, by omega, by omega, Lib.hid (by rw [hd.out]; rfl)⟩
    case round =>
      obtain ⟨k, x, y, hk, rfl, rfl, rfl, hx1, hx2, H⟩ := hrel
      by_cases hlt : k < l.length
      · obtain ⟨ad, rfl, hc⟩ := hr'.out.at_ hlt
        have HS := Lib.hid (drop_at l hlt)
        generalize l.getD k 0 = r at hc HS
        by_cases h2 : r < 2
        · go_wp2
          go_ret2
          have e : D.sizeD l = (0, 1) := by rw [← H.out, HS.out, D.sizeL, if_pos h2]
          rw [e]
          exact ⟨rfl, rfl⟩
        · have hg := fun n b => (show D.sizeL n b (r :: l.drop (k + 1)) = if b = true ∨ 4096 / n < r then D.sizeL n true (l.drop (k + 1)) else D.sizeL (n * r) false (l.drop (k + 1)) by rw [D.sizeL, if_neg h2])
          rw [← HS.out] at hg
          have HG := Lib.hid hg
          clear hg HS
          cases y with
          | true =>
            go_wp2
            go_round
            case rel => exact ⟨k + 1, x, true, by omega, by go_num, rfl, rfl, by omega, by omega, Lib.hid (by rw [← H.out, HG.out, if_pos (.inl rfl)])⟩
            case measure => simp [intOf]; omega
          | false =>
            by_cases h3 : 4096 / x < r
            · have h3b : decide (4096 / x < r) = true := decide_eq_true h3
              go_wp2
              go_round
              case rel => exact ⟨k + 1, x, true, by omega, by go_num, rfl, rfl, by omega, by omega, Lib.hid (by rw [← H.out, HG.out, if_pos (.inr h3)])⟩
              case measure => simp [intOf]; omega
            · have hf := D.mul_fits hx1 h3
              have hp : 1 ≤ x * r := by have := Int.mul_le_mul hx1 (show 1 ≤ r by omega) (by omega) (by omega); omega
              have h3b : decide (4096 / x < r) = false := decide_eq_false h3
              have h3c : ¬ (false = true ∨ 4096 / x < r) := by rintro (h | h); exact absurd h (by decide); exact h3 h
              have H3 := Lib.hid h3c
              clear h3c h3
              go_wp2
              go_round
              case rel => exact ⟨k + 1, x * r, false, by omega, by go_num, by go_num, rfl, by omega, by omega, Lib.hid (by rw [← H.out, HG.out, if_neg H3.out])⟩
              case measure => simp [intOf]; omega
      · have HS := Lib.hid (show l.drop k = [] from List.drop_eq_nil_of_le (by omega))
        cases y with
        | true =>
          go_wp2
          go_ret2
          have e : D.sizeD l = (0, 13) := by rw [← H.out, HS.out, D.sizeL, if_pos rfl]
          rw [e]
          exact ⟨rfl, rfl⟩
        | false =>
          go_wp2
          go_ret2
          have e : D.sizeD l = (x, 0) := by rw [← H.out, HS.out, D.sizeL, if_neg (by decide)]
          rw [e]
          exact ⟨rfl, rfl⟩
end Go.Proofs.Ytmofdjddjkjogaa
