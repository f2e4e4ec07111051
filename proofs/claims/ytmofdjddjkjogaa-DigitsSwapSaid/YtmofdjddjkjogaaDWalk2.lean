/- The walks of chapter 9's functions: turn, Turn, the reference's Size and Back, alive's part that Turn pays. No condition. -/
import Derived.Test.YtmofdjddjkjogaaDWalk
namespace Go.Proofs.Ytmofdjddjkjogaa
open Go.RowKit
theorem infoInt : (Try.prog.info? 3).map (fun i => (i.zero, i.size, i.bytes)) = some (some (.int .i64 0), 1, 8) := by kernel_rfl
theorem infoU64 : (Try.prog.info? 41).map (fun i => (i.zero, i.size, i.bytes)) = some (some (.int .u64 0), 1, 8) := by kernel_rfl

set_option maxHeartbeats 400000 in
theorem turn_any (A : Option Addr) (c : Nat) (l : List Int) (i : Int) (w : World) (hr : RI .i64 w A l) (hok : D.Ok l) (h0 : 0 ≤ i) (h1 : i ≤ 9223372036854775807) :
    Calls Try.prog 21 #[.slice A l.length c, .int .i64 i] w fun e w' => e = .returned (.int .i64 (D.turnD l i)) ∧ w = w' := by
  have hl := hok.1
  have hr' := Lib.hid hr
  have hok' := Lib.hid hok
  have hd := Lib.hid (show D.turnD l i = D.turnL 0 i l from rfl)
  clear hr hok
  go_enter Try.func21, Try.ntmps21
  go_wp2
  go_loop [1, 5, 10] (fun n o j => ∃ (k : Nat) (x y p q : Int), k ≤ l.length ∧ j = .int .i64 k ∧ n = .int .i64 x ∧ o = .int .i64 y ∧ 0 ≤ x ∧ x ≤ 9223372036854775807 ∧ 0 ≤ y ∧ y < p ∧ 1 ≤ p ∧ p ≤ 4096 ∧ Hid (p * q ≤ 4096) ∧ Hid (q = D.prod (l.drop k)) ∧ Hid (D.turnL y x (l.drop k) = D.turnD l i)) (fun _ _ j => l.length - (intOf j).toNat)
  case atStart => exact ⟨0, i, 0, 1, D.prod l, by omega, rfl, rfl, rfl, h0, h1, by omega, by omega, by omega, by omega, Lib.hid (by rw [Int.one_mul]; exact hok'.out.2.2), Lib.hid rfl, Lib.hid rfl⟩
  case round =>
    obtain ⟨k, x, y, p, q, hk, rfl, rfl, rfl, hx0, hx1, hy0, hy1, hp1, hp2, HP, HQ, H⟩ := hrel
    by_cases hlt : k < l.length
    · obtain ⟨ad, rfl, hc⟩ := hr'.out.at_ hlt
      have HS := Lib.hid (drop_at l hlt)
      have h2 : 2 ≤ l.getD k 0 := hok'.out.2.1 _ (by rw [List.getD_eq_getElem?_getD, List.getElem?_eq_getElem hlt]; exact List.getElem_mem hlt)
      generalize l.getD k 0 = r at hc HS h2
      have hq2 : 1 ≤ D.prod (l.drop (k + 1)) := D.prod_pos _ fun z hz => hok'.out.2.1 z (List.mem_of_mem_drop hz)
      have HQ2 : Hid (q = r * D.prod (l.drop (k + 1))) := Lib.hid (by rw [HQ.out, HS.out]; rfl)
      have hpr : p * r ≤ 4096 := by
        have e : p * q = p * r * D.prod (l.drop (k + 1)) := by rw [HQ2.out, Int.mul_assoc]
        have h3 := HP.out
        rw [e] at h3
        have := D.mul_ge (D.mul_pos' hp1 (show 1 ≤ r by omega)) hq2
        omega
      have hp3 : 1 ≤ p * r := D.mul_pos' hp1 (by omega)
      have hm0 := Int.emod_nonneg x (show r ≠ 0 by omega)
      have hm1 := Int.emod_lt_of_pos x (show 0 < r by omega)
      have hy2 : (y + 1) * r ≤ p * r := Int.mul_le_mul_of_nonneg_right (by omega) (by omega)
      rw [Int.add_mul, Int.one_mul] at hy2
      have hy3 : 0 ≤ y * r := Int.mul_nonneg hy0 (by omega)
      have hd0 : 0 ≤ x / r := Int.ediv_nonneg hx0 (by omega)
      have hd1 : x / r ≤ x := Int.ediv_le_self _ hx0
      have hr1 : 1 ≤ r := by omega
      go_wp2
      go_round
      case rel => exact ⟨k + 1, x / r, y * r + x % r, p * r, D.prod (l.drop (k + 1)), by omega, by go_num, by go_num, by go_num, hd0, by omega, by omega, by omega, hp3, hpr, Lib.hid (by have h3 := HP.out; rw [HQ2.out, ← Int.mul_assoc] at h3; exact h3), Lib.hid rfl, Lib.hid (by rw [← H.out, HS.out]; rfl)⟩
      case measure => simp [intOf]; omega
    · have HS := Lib.hid (show l.drop k = [] from List.drop_eq_nil_of_le (by omega))
      go_wp2
      go_ret
      exact ⟨ret_int (by rw [← H.out, HS.out]; rfl), rfl⟩

set_option maxHeartbeats 400000 in
theorem Turn_yes (A : Option Addr) (c : Nat) (l : List Int) (i : Int) (w : World) (hr : RI .i64 w A l) (hok : D.Ok l) (h0 : 0 ≤ i) (h1 : i < D.prod l) :
    Calls Try.prog 10 #[.slice A l.length c, .int .i64 i] w fun e w' => e = .returned (.tuple #[.int .i64 (D.turnD l i), .bool true]) ∧ w = w' := by
  have hl := hok.1
  have hp := hok.2.2
  have hS := hok.size
  have c1 := size_any A c l w hr (by omega)
  rw [hS] at c1
  have C1 := Lib.hid c1
  have C2 := Lib.hid (turn_any A c l i w hr hok h0 (by omega))
  clear hS c1 hr hok
  generalize D.prod l = n at *
  go_enter Try.func10, Try.ntmps10
  go_wp2_with fail
  refine C1.out.mono ?_
  rintro e w' ⟨rfl, rfl⟩
  go_wp2_with fail
  refine C2.out.mono ?_
  rintro e w' ⟨rfl, rfl⟩
  go_wp2_with fail
  go_ret2
  exact ⟨rfl, rfl⟩

set_option maxHeartbeats 400000 in
theorem Turn_no (A : Option Addr) (c : Nat) (l : List Int) (i : Int) (w : World) (hr : RI .i64 w A l) (hm : l.length ≤ 9223372036854775807) (hno : ¬ (D.Ok l ∧ 0 ≤ i ∧ i < D.prod l)) :
    Calls Try.prog 10 #[.slice A l.length c, .int .i64 i] w fun e w' => e = .returned (.tuple #[.int .i64 0, .bool false]) ∧ w = w' := by
  have c1 := size_any A c l w hr hm
  rcases D.sizeD_cases l with ⟨ho, h⟩ | ⟨ho, h⟩ | ⟨ho, h⟩
  · rw [h] at c1
    have C1 := Lib.hid c1
    have hp := ho.2.2
    have hq : i < 0 ∨ D.prod l ≤ i := by
      rcases Int.lt_or_le i 0 with h3 | h3
      · exact .inl h3
      · rcases Int.lt_or_le i (D.prod l) with h4 | h4
        · exact absurd ⟨ho, h3, h4⟩ hno
        · exact .inr h4
    clear c1 h hno hr ho
    generalize D.prod l = n at *
    by_cases hi : i < 0
    · go_enter Try.func10, Try.ntmps10
      go_wp2_with fail
      refine C1.out.mono ?_
      rintro e w' ⟨rfl, rfl⟩
      go_wp2_with fail
      go_ret2
      exact ⟨rfl, rfl⟩
    · have hi2 : n ≤ i := by omega
      clear hq
      go_enter Try.func10, Try.ntmps10
      go_wp2_with fail
      refine C1.out.mono ?_
      rintro e w' ⟨rfl, rfl⟩
      go_wp2_with fail
      go_ret2
      exact ⟨rfl, rfl⟩
  all_goals
    rw [h] at c1
    have C1 := Lib.hid c1
    clear c1 h hno hr ho
    go_enter Try.func10, Try.ntmps10
    go_wp2_with fail
    refine C1.out.mono ?_
    rintro e w' ⟨rfl, rfl⟩
    go_wp2_with fail
    go_ret2
    exact ⟨rfl, rfl⟩

set_option maxHeartbeats 400000 in
/-- The reference's Size is Size. -/
theorem refSize_any (A : Option Addr) (c : Nat) (l : List Int) (w : World) (hr : RI .i64 w A l) (hm : l.length ≤ 9223372036854775807) :
    Calls Try.prog 9 #[.slice A l.length c] w fun e w' => e = .returned (.tuple #[.int .i64 (D.sizeD l).1, .int .i64 (D.sizeD l).2]) ∧ w = w' := by
  by_cases h12 : 12 < l.length
  · have hd := Lib.hid (show D.sizeD l = (0, 1) by unfold D.sizeD; rw [if_pos h12])
    go_enter Try.func9, Try.ntmps9
    go_wp2
    go_ret2
    rw [hd.out]
    exact ⟨rfl, rfl⟩
  · have hr' := Lib.hid hr
    clear hr
    go_enter Try.func9, Try.ntmps9
    go_wp2
    go_loop [14] (fun i => ∃ (k : Nat), k ≤ l.length ∧ i = .int .i64 k ∧ Hid (D.small (l.drop k) = D.small l)) (fun i => l.length - (intOf i).toNat)
    case atStart => exact ⟨0, by omega, rfl, Lib.hid rfl⟩
    case round =>
      obtain ⟨k, hk, rfl, H⟩ := hrel
      by_cases hlt : k < l.length
      · obtain ⟨ad, rfl, hc⟩ := hr'.out.at_ hlt
        have HS := Lib.hid (drop_at l hlt)
        generalize l.getD k 0 = r at hc HS
        by_cases h2 : r < 2
        · have hd := Lib.hid (D.sizeD_small l (by rw [← H.out, HS.out, D.small, if_pos h2]))
          go_wp2
          go_ret2
          rw [hd.out]
          exact ⟨rfl, rfl⟩
        · have HN := Lib.hid (show D.small (l.drop (k + 1)) = D.small l by rw [← H.out, HS.out, D.small, if_neg h2])
          go_wp2
          go_round
          case rel => exact ⟨k + 1, by omega, by go_num, HN⟩
          case measure => simp [intOf]; omega
      · have hsm : D.small l = false := by rw [← H.out, List.drop_eq_nil_of_le (by omega)]; rfl
        have HR := Lib.hid (D.sizeD_ref l h12 hsm)
        have HM := Lib.hid ((D.small_false l).1 hsm)
        clear H hsm
        go_wp2
        go_loop [6, 23] (fun n i => ∃ (k : Nat) (x : Int), k ≤ l.length ∧ i = .int .i64 k ∧ n = .int .i64 x ∧ 1 ≤ x ∧ x ≤ 4096 ∧ Hid (D.refL x (l.drop k) = D.sizeD l)) (fun _ i => l.length - (intOf i).toNat)
        case atStart => exact ⟨0, 1, by omega, rfl, rfl, by omega, by omega, Lib.hid (by rw [HR.out]; rfl)⟩
        case round =>
          obtain ⟨k, x, hk, rfl, rfl, hx1, hx2, H⟩ := hrel
          by_cases hlt : k < l.length
          · obtain ⟨ad, rfl, hc⟩ := hr'.out.at_ hlt
            have HS := Lib.hid (drop_at l hlt)
            have hr2 : 2 ≤ l.getD k 0 := HM.out _ (by rw [List.getD_eq_getElem?_getD, List.getElem?_eq_getElem hlt]; exact List.getElem_mem hlt)
            generalize l.getD k 0 = r at hc HS hr2
            by_cases h4 : 4096 < r
            · have hd := Lib.hid (show D.sizeD l = (0, 13) by rw [← H.out, HS.out, D.refL, if_pos h4])
              go_wp2
              go_ret2
              rw [hd.out]
              exact ⟨rfl, rfl⟩
            · have hb1 : 1 ≤ x * r := D.mul_pos' hx1 (by omega)
              have hb2 : x * r ≤ 4096 * 4096 := Int.mul_le_mul hx2 (by omega) (by omega) (by omega)
              by_cases h5 : 4096 < x * r
              · have hd := Lib.hid (show D.sizeD l = (0, 13) by rw [← H.out, HS.out, D.refL, if_neg h4, if_pos h5])
                go_wp2
                go_ret2
                rw [hd.out]
                exact ⟨rfl, rfl⟩
              · have HN := Lib.hid (show D.refL (x * r) (l.drop (k + 1)) = D.sizeD l by rw [← H.out, HS.out, D.refL, if_neg h4, if_neg h5])
                go_wp2
                go_round
                case rel => exact ⟨k + 1, x * r, by omega, by go_num, by go_num, by omega, by omega, HN⟩
                case measure => simp [intOf]; omega
          · have hd := Lib.hid (show D.sizeD l = (x, 0) by rw [← H.out, List.drop_eq_nil_of_le (by omega)]; rfl)
            go_wp2
            go_ret2
            rw [hd.out]
            exact ⟨rfl, rfl⟩
end Go.Proofs.Ytmofdjddjkjogaa
