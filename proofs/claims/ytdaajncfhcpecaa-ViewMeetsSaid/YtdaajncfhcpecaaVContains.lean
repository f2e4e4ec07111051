/- The walks of slices.Index and slices.Contains over whole numbers. No condition. -/
import Derived.Test.YtdaajncfhcpecaaVDense
namespace Go.Proofs.Ytdaajncfhcpecaa
set_option linter.unusedVariables false
set_option linter.unusedSimpArgs false
open Go.RowKit
/-- The place of the first, or -1. -/
def place (x : Int) : List Int → Nat → Int
  | [], _ => -1
  | y :: ys, k => if x = y then k else place x ys (k + 1)
theorem place_mem (x : Int) : ∀ (l : List Int) (k : Nat), 0 ≤ place x l k ↔ x ∈ l
  | [], k => by simp [place]
  | y :: ys, k => by
    simp only [place, List.mem_cons]
    by_cases h : x = y
    · simp [h]
    · rw [if_neg h, place_mem x ys (k + 1)]
      constructor
      · exact .inr
      · rintro (h' | h')
        · exact absurd h' h
        · exact h'
set_option maxHeartbeats 400000 in
theorem Index_any (A : Option Addr) (c : Nat) (l : List Int) (x : Int) (w : World) (hr : RI .i64 w A l) (hm : l.length ≤ 9223372036854775807) :
    Calls Try.prog 54 #[.slice A l.length c, .int .i64 x] w fun e w' => e = .returned (.int .i64 (place x l 0)) ∧ w = w' := by
  have hr' := Lib.hid hr
  obtain ⟨R, hR⟩ : ∃ R, place x l 0 = R := ⟨_, rfl⟩
  rw [hR]
  have HR := Lib.hid hR
  clear hr hR
  go_enter Try.func54, Try.ntmps54
  go_wp2_with fail
  go_loop [8] (fun i => ∃ k : Nat, k ≤ l.length ∧ i = .int .i64 k ∧ Hid (place x (l.drop k) k = R)) (fun i => l.length - (intOf i).toNat)
  case atStart => exact ⟨0, by omega, rfl, HR⟩
  case round =>
    obtain ⟨k, hk, rfl, HP⟩ := hrel
    by_cases hlt : k < l.length
    · obtain ⟨ad, rfl, hc⟩ := hr'.out.at_ hlt
      have hd := HP.out
      rw [drop_at l hlt, place] at hd
      generalize l.getD k 0 = y at *
      by_cases hxy : x = y
      · rw [if_pos hxy] at hd
        have HD := Lib.hid hd
        subst hxy
        clear hd
        go_wp2_with fail
        go_ret
        exact ⟨ret_int HD.out, rfl⟩
      · rw [if_neg hxy] at hd
        have HD := Lib.hid hd
        have hb : (x == y) = false := by simp [hxy]
        have hb2 : decide (x = y) = false := by simp [hxy]
        clear hd hxy
        go_wp2_with fail
        go_round
        case rel => exact ⟨k + 1, by omega, by go_num, HD⟩
        case measure => simp [intOf]; omega
    · obtain rfl : k = l.length := by omega
      have HD := Lib.hid (show (-1 : Int) = R by rw [← HP.out, List.drop_length]; rfl)
      go_wp2_with fail
      go_ret
      exact ⟨ret_int HD.out, rfl⟩
theorem Contains_any (A : Option Addr) (c : Nat) (l : List Int) (x : Int) (w : World) (hr : RI .i64 w A l) (hm : l.length ≤ 9223372036854775807) :
    Calls Try.prog 47 #[.slice A l.length c, .int .i64 x] w fun e w' => e = .returned (.bool (decide (x ∈ l))) ∧ w = w' := by
  have CI := Lib.hid (Index_any A c l x w hr hm)
  have HM := Lib.hid (place_mem x l 0)
  generalize place x l 0 = p at *
  clear hr
  by_cases h : 0 ≤ p
  · have HT := Lib.hid (show true = decide (x ∈ l) from (decide_eq_true (HM.out.1 h)).symm)
    have hd : decide (0 ≤ p) = true := by simp [h]
    generalize decide (x ∈ l) = R at *
    go_enter Try.func47, Try.ntmps47
    go_wp2_with fail
    with_reducible refine CI.out.mono ?_
    rintro e w' ⟨rfl, rfl⟩
    go_wp2_with fail
    go_ret
    exact ⟨ret_bool HT.out, rfl⟩
  · have HT := Lib.hid (show false = decide (x ∈ l) from (decide_eq_false (fun hm => h (HM.out.2 hm))).symm)
    have hd : decide (0 ≤ p) = false := by simp; omega
    generalize decide (x ∈ l) = R at *
    go_enter Try.func47, Try.ntmps47
    go_wp2_with fail
    with_reducible refine CI.out.mono ?_
    rintro e w' ⟨rfl, rfl⟩
    go_wp2_with fail
    go_ret
    exact ⟨ret_bool HT.out, rfl⟩
end Go.Proofs.Ytdaajncfhcpecaa
