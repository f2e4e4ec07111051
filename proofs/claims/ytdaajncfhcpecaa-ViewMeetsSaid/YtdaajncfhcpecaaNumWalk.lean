/- The walk of chapter 7's Number. No condition. -/
import Derived.Test.YtdaajncfhcpecaaSWalk2
namespace Go.Proofs.Ytdaajncfhcpecaa
set_option linter.unusedVariables false
set_option linter.unusedSimpArgs false
open Go.RowKit
abbrev four (a b c d : Int) : Array Value := #[.int .i64 a, .int .i64 b, .int .i64 c, .int .i64 d]
theorem index33_0 (a b c d : Int) (w : World) : (Instr.index 33 (.agg #[.int .i64 a, .int .i64 b, .int .i64 c, .int .i64 d]) (.int .i64 0)).run Try.prog w = .ok (.int .i64 a) w := by kernel_rfl
theorem index33_1 (a b c d : Int) (w : World) : (Instr.index 33 (.agg #[.int .i64 a, .int .i64 b, .int .i64 c, .int .i64 d]) (.int .i64 1)).run Try.prog w = .ok (.int .i64 b) w := by kernel_rfl
theorem index33_2 (a b c d : Int) (w : World) : (Instr.index 33 (.agg #[.int .i64 a, .int .i64 b, .int .i64 c, .int .i64 d]) (.int .i64 2)).run Try.prog w = .ok (.int .i64 c) w := by kernel_rfl
theorem index33_3 (a b c d : Int) (w : World) : (Instr.index 33 (.agg #[.int .i64 a, .int .i64 b, .int .i64 c, .int .i64 d]) (.int .i64 3)).run Try.prog w = .ok (.int .i64 d) w := by kernel_rfl
theorem index33 (a b c d : Int) (k : Nat) (hk : k < 4) (w : World) : (Instr.index 33 (.agg #[.int .i64 a, .int .i64 b, .int .i64 c, .int .i64 d]) (.int .i64 (k : Int))).run Try.prog w = .ok (.int .i64 ([a, b, c, d].getD k 0)) w :=
  match k, hk with
  | 0, _ => index33_0 a b c d w
  | 1, _ => index33_1 a b c d w
  | 2, _ => index33_2 a b c d w
  | 3, _ => index33_3 a b c d w
set_option maxHeartbeats 400000 in
theorem Number_bad (A : Option Addr) (cp : Nat) (l : List Int) (a b c d : Int) (w : World) (hr : RI .i64 w A l) (hm : l.length ≤ 9223372036854775807) (hno : ¬ S.Ok l) :
    Calls Try.prog 19 #[.slice A l.length cp, .agg (four a b c d)] w fun e w' => e = .returned (.tuple #[.int .i64 0, .bool false]) ∧ Below w.heap.size w w' := by
  have c1 := fun (W : World) (h : RI .i64 W A l) => size_any A cp l W h hm
  have hr' := Lib.hid hr
  rcases S.size_cases l with ho | ⟨ho, h⟩ | ⟨ho, h⟩
  · exact absurd ho hno
  all_goals
    rw [h] at c1
    have C1 := Lib.hid c1
    clear c1 h hno hr ho
    go_enter Try.func19, Try.ntmps19
    go_wp2_with fail
    with_reducible refine (C1.out _ ?_).mono ?_
    · exact hr'.out.below ((Below.refl _ _).alloc (Nat.le_refl _) _)
    rintro e w' ⟨rfl, rfl⟩
    go_wp2_with fail
    go_ret2
    exact ⟨rfl, (Below.refl _ _).alloc (Nat.le_refl _) _⟩
set_option maxHeartbeats 1000000 in
theorem Number_ok (A : Option Addr) (cp : Nat) (l : List Int) (a b c d : Int) (w : World) (hr : RI .i64 w A l) (hok : S.Ok l) :
    Calls Try.prog 19 #[.slice A l.length cp, .agg (four a b c d)] w fun e w' => e = .returned (if S.isL l [a, b, c, d] then .tuple #[.int .i64 (S.sumL l [a, b, c, d]), .bool true] else .tuple #[.int .i64 0, .bool false]) ∧ Below w.heap.size w w' := by
  have hl := hok.1
  have hp := hok.2.2
  have C1 := Lib.hid fun (W : World) (h : RI .i64 W A l) => size_any A cp l W h (by omega)
  rw [hok.size] at C1
  have HB := Lib.hid fun (o : Obj) => (Below.refl w.heap.size w).alloc (Nat.le_refl _) o
  have hr' := Lib.hid hr
  have HK := Lib.hid hok
  have HP := Lib.hid hp
  clear hr hok hp
  have HI := Lib.hid fun (k : Nat) (hk : k < 4) => index33 a b c d k hk
  obtain ⟨R, HR0⟩ : ∃ R, (if S.isL l [a, b, c, d] then Value.tuple #[.int .i64 (S.sumL l [a, b, c, d]), .bool true] else .tuple #[.int .i64 0, .bool false]) = R := ⟨_, rfl⟩
  rw [HR0]
  have HRES := Lib.hid HR0
  clear HR0
  go_enter Try.func19, Try.ntmps19
  go_wp2_with fail
  with_reducible refine (C1.out _ ?_).mono ?_
  · exact hr'.out.below (HB.out _)
  rintro e w' ⟨rfl, rfl⟩
  have HR := Lib.hid (hr'.out.below (HB.out (.cells (four a b c d) 33)))
  have h44 : [a, b, c, d].length = 4 := rfl
  have HL4 := Lib.hid h44
  clear h44
  have HD := Lib.hid fun (k : Nat) (hk : k < 4) => S.drop_at [a, b, c, d] (k := k) (by rw [HL4.out]; exact hk)
  have HD4 := Lib.hid (show [a, b, c, d].drop 4 = [] from rfl)
  go_wp2_with fail
  generalize [a, b, c, d] = i at *
  go_loop [8, 19] (fun n j => ∃ (k : Nat) (x : Int), k ≤ 4 ∧ j = .int .i64 k ∧ n = .int .i64 x ∧ 0 ≤ x ∧ x ≤ 4095 ∧ Hid (S.numL x (l.drop k) (i.drop k) = S.numL 0 l i) ∧ Hid (S.isL (l.drop k) (i.drop k) = S.isL l i) ∧ Hid ((x + 1) * S.prod (l.drop k) ≤ 4096)) (fun _ j => 4 - (intOf j).toNat)
  case atStart => exact ⟨0, 0, by omega, rfl, rfl, by omega, by omega, Lib.hid rfl, Lib.hid rfl, Lib.hid (by rw [Int.zero_add, Int.one_mul]; exact HP.out)⟩
  case round =>
    obtain ⟨k, n, hk, rfl, rfl, hn0, hn1, HN, HIS, HQ⟩ := hrel
    by_cases hlt : k < 4
    · have hix := fun (W : World) => HI.out k hlt W
      have hd := HD.out k hlt
      generalize i.getD k 0 = x at hix hd
      by_cases hkl : k < l.length
      · obtain ⟨ad, rfl, hcl⟩ := HR.out.at_ hkl
        have hls := S.drop_at l hkl
        have hr1 := HK.out.2.1 _ (S.getD_mem hkl)
        have hq1 := S.prod_drop_pos l (k + 1) HK.out.2.1
        have hpd := S.prod_drop_at l hkl
        generalize l.getD k 0 = s at *
        by_cases hx0 : x < 0
        · have HF := Lib.hid (show S.isL l i = false by rw [← HIS.out, hls, hd, S.isL, if_neg (by omega)])
          clear hd hls hpd
          go_wp2_with fail
          go_ret2
          rw [← HRES.out, HF.out]
          exact ⟨rfl, HB.out _⟩
        by_cases hx1 : s ≤ x
        · have HF := Lib.hid (show S.isL l i = false by rw [← HIS.out, hls, hd, S.isL, if_neg (by omega)])
          clear hd hls hpd
          go_wp2_with fail
          go_ret2
          rw [← HRES.out, HF.out]
          exact ⟨rfl, HB.out _⟩
        have hx2 : 0 ≤ x := by omega
        have hx3 : x < s := by omega
        have HN2 := Lib.hid (show S.numL (n * s + x) (l.drop (k + 1)) (i.drop (k + 1)) = S.numL 0 l i by rw [← HN.out, hls, hd]; rfl)
        have HIS2 := Lib.hid (show S.isL (l.drop (k + 1)) (i.drop (k + 1)) = S.isL l i by rw [← HIS.out, hls, hd, S.isL, if_pos ⟨hx2, hx3⟩])
        have hns : 0 ≤ n * s := Int.mul_nonneg hn0 (by omega)
        have hq2 : (n + 1) * s * S.prod (l.drop (k + 1)) ≤ 4096 := by
          have := HQ.out
          rw [hpd, S.stride, ← Int.mul_assoc] at this
          exact this
        have hq3 : (n * s + x + 1) * S.prod (l.drop (k + 1)) ≤ (n + 1) * s * S.prod (l.drop (k + 1)) := by
          refine Int.mul_le_mul_of_nonneg_right ?_ (by omega)
          rw [Int.add_mul, Int.one_mul]
          omega
        have HQ2 := Lib.hid (show (n * s + x + 1) * S.prod (l.drop (k + 1)) ≤ 4096 by omega)
        have hq4 : n * s + x + 1 ≤ 4096 := by
          have h1 := HQ2.out
          have h2 := S.mul_ge (show 1 ≤ n * s + x + 1 by omega) hq1
          omega
        clear hd hls hpd hq2 hq3 hx0 hx1
        go_wp2_with fail
        go_round
        case rel => exact ⟨k + 1, n * s + x, by omega, by go_num, by go_num, by omega, by omega, HN2, HIS2, HQ2⟩
        case measure => simp [intOf]; omega
      · have hls : l.drop k = [] := List.drop_eq_nil_of_le (by omega)
        have hls2 : l.drop (k + 1) = [] := List.drop_eq_nil_of_le (by omega)
        by_cases hx : x = 0
        · have hx0 : (x != 0) = false := by simp [hx]
          have HN2 := Lib.hid (show S.numL n (l.drop (k + 1)) (i.drop (k + 1)) = S.numL 0 l i by rw [← HN.out, hls, hls2]; rfl)
          have HIS2 := Lib.hid (show S.isL (l.drop (k + 1)) (i.drop (k + 1)) = S.isL l i by rw [← HIS.out, hls, hls2, hd, S.isL, if_pos hx])
          have HQ2 := Lib.hid (show (n + 1) * S.prod (l.drop (k + 1)) ≤ 4096 by rw [hls2, ← hls]; exact HQ.out)
          clear hd hls hls2 hx
          go_wp2_with fail
          go_round
          case rel => exact ⟨k + 1, n, by omega, by go_num, rfl, by omega, by omega, HN2, HIS2, HQ2⟩
          case measure => simp [intOf]; omega
        · have hx0 : (x != 0) = true := by simp [hx]
          have HF := Lib.hid (show S.isL l i = false by rw [← HIS.out, hls, hd, S.isL, if_neg hx])
          clear hd hls hls2 hx
          go_wp2_with fail
          go_ret2
          rw [← HRES.out, HF.out]
          exact ⟨rfl, HB.out _⟩
    · obtain rfl : k = 4 := by omega
      have HT := Lib.hid (show S.isL l i = true by rw [← HIS.out, HD4.out]; cases l.drop 4 <;> rfl)
      have HE := Lib.hid (show n = S.sumL l i by
        have h := HN.out
        rw [HD4.out, S.numL_sum l i 0 (by have := HL4.out; omega), Int.zero_mul, Int.zero_add] at h
        rw [← h]
        cases l.drop 4 <;> rfl)
      go_wp2_with fail
      go_ret2
      rw [← HRES.out, HT.out, ← HE.out]
      exact ⟨rfl, HB.out _⟩
end Go.Proofs.Ytdaajncfhcpecaa
