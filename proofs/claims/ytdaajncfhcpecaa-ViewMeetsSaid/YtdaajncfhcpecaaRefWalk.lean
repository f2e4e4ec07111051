/- The walks of the reference's Is, Number and At of chapter 7; At where there is no index. No condition. -/
import Derived.Test.YtdaajncfhcpecaaAtWalk
import Derived.StillTailTactics
namespace Go.Proofs.Ytdaajncfhcpecaa
set_option linter.unusedVariables false
set_option linter.unusedSimpArgs false
open Go.RowKit
theorem flipw {P : Program} {f : FuncId} {args : Array Value} {w : World} {v : Value}
    (h : Calls P f args w fun e w' => e = .returned v ∧ w = w') : Calls P f args w fun e w'' => e = .returned v ∧ w'' = w :=
  h.mono fun _ _ ⟨he, hm⟩ => ⟨he, hm.symm⟩
set_option maxHeartbeats 400000 in
theorem At_no (A : Option Addr) (cp : Nat) (l : List Int) (n : Int) (w : World) (hr : RI .i64 w A l) (hm : l.length ≤ 9223372036854775807) (hno : ¬ (S.Ok l ∧ 0 ≤ n ∧ n < S.prod l)) :
    Calls Try.prog 20 #[.slice A l.length cp, .int .i64 n] w fun e w' => e = .returned (.tuple #[.agg (four 0 0 0 0), .bool false]) ∧ Below w.heap.size w w' := by
  have c1 := fun (W : World) (h : RI .i64 W A l) => size_any A cp l W h hm
  have hr' := Lib.hid hr
  have HB := Lib.hid fun (o : Obj) => (Below.refl w.heap.size w).alloc (Nat.le_refl _) o
  rcases S.size_cases l with ho | ⟨ho, h⟩ | ⟨ho, h⟩
  · rw [ho.size] at c1
    have C1 := Lib.hid c1
    have hp := ho.2.2
    have hq : n < 0 ∨ S.prod l ≤ n := by
      rcases Int.lt_or_le n 0 with h3 | h3
      · exact .inl h3
      · rcases Int.lt_or_le n (S.prod l) with h4 | h4
        · exact absurd ⟨ho, h3, h4⟩ hno
        · exact .inr h4
    clear c1 hno hr ho
    generalize S.prod l = p at *
    by_cases hi : n < 0
    · go_enter Try.func20, Try.ntmps20
      go_wp2_with fail
      with_reducible refine (C1.out _ ?_).mono ?_
      · exact hr'.out.below (HB.out _)
      rintro e w' ⟨rfl, rfl⟩
      go_wp2_with fail
      exact bodyPost_ret (v := .tuple #[.agg (four 0 0 0 0), .bool false]) (by simp [results, Try.results20, go_sem]) rfl ⟨rfl, HB.out _⟩
    · have hi2 : p ≤ n := by omega
      clear hq
      go_enter Try.func20, Try.ntmps20
      go_wp2_with fail
      with_reducible refine (C1.out _ ?_).mono ?_
      · exact hr'.out.below (HB.out _)
      rintro e w' ⟨rfl, rfl⟩
      go_wp2_with fail
      exact bodyPost_ret (v := .tuple #[.agg (four 0 0 0 0), .bool false]) (by simp [results, Try.results20, go_sem]) rfl ⟨rfl, HB.out _⟩
  all_goals
    rw [h] at c1
    have C1 := Lib.hid c1
    clear c1 h hno hr ho
    go_enter Try.func20, Try.ntmps20
    go_wp2_with fail
    with_reducible refine (C1.out _ ?_).mono ?_
    · exact hr'.out.below (HB.out _)
    rintro e w' ⟨rfl, rfl⟩
    go_wp2_with fail
    exact bodyPost_ret (v := .tuple #[.agg (four 0 0 0 0), .bool false]) (by simp [results, Try.results20, go_sem]) rfl ⟨rfl, HB.out _⟩

theorem index32_0 (a b c d : Int) (w : World) : (Instr.index 32 (.agg #[.int .i64 a, .int .i64 b, .int .i64 c, .int .i64 d]) (.int .i64 0)).run Try.prog w = .ok (.int .i64 a) w := by kernel_rfl
theorem index32_1 (a b c d : Int) (w : World) : (Instr.index 32 (.agg #[.int .i64 a, .int .i64 b, .int .i64 c, .int .i64 d]) (.int .i64 1)).run Try.prog w = .ok (.int .i64 b) w := by kernel_rfl
theorem index32_2 (a b c d : Int) (w : World) : (Instr.index 32 (.agg #[.int .i64 a, .int .i64 b, .int .i64 c, .int .i64 d]) (.int .i64 2)).run Try.prog w = .ok (.int .i64 c) w := by kernel_rfl
theorem index32_3 (a b c d : Int) (w : World) : (Instr.index 32 (.agg #[.int .i64 a, .int .i64 b, .int .i64 c, .int .i64 d]) (.int .i64 3)).run Try.prog w = .ok (.int .i64 d) w := by kernel_rfl
theorem index32 (a b c d : Int) (k : Nat) (hk : k < 4) (w : World) : (Instr.index 32 (.agg #[.int .i64 a, .int .i64 b, .int .i64 c, .int .i64 d]) (.int .i64 (k : Int))).run Try.prog w = .ok (.int .i64 ([a, b, c, d].getD k 0)) w :=
  match k, hk with
  | 0, _ => index32_0 a b c d w
  | 1, _ => index32_1 a b c d w
  | 2, _ => index32_2 a b c d w
  | 3, _ => index32_3 a b c d w
set_option maxHeartbeats 400000 in
theorem Is_ok (A : Option Addr) (cp : Nat) (l : List Int) (a b c d : Int) (w : World) (hr : RI .i64 w A l) (hok : S.Ok l) :
    Calls Try.prog 21 #[.slice A l.length cp, .agg (four a b c d)] w fun e w' => e = .returned (.bool (S.isL l [a, b, c, d])) ∧ Below w.heap.size w w' := by
  have hl := hok.1
  have HB := Lib.hid fun (o : Obj) => (Below.refl w.heap.size w).alloc (Nat.le_refl _) o
  have HR := Lib.hid (hr.below (HB.out (.cells (four a b c d) 32)))
  clear hr hok
  have HI := Lib.hid fun (k : Nat) (hk : k < 4) => index32 a b c d k hk
  obtain ⟨R, HR0⟩ : ∃ R, S.isL l [a, b, c, d] = R := ⟨_, rfl⟩
  rw [HR0]
  have HRES := Lib.hid HR0
  clear HR0
  have h44 : [a, b, c, d].length = 4 := rfl
  have HL4 := Lib.hid h44
  clear h44
  have HD := Lib.hid fun (k : Nat) (hk : k < 4) => S.drop_at [a, b, c, d] (k := k) (by rw [HL4.out]; exact hk)
  have HD4 := Lib.hid (show [a, b, c, d].drop 4 = [] from rfl)
  go_enter Try.func21, Try.ntmps21
  go_wp2_with fail
  generalize [a, b, c, d] = i at *
  go_loop [8] (fun j => ∃ k : Nat, k ≤ 4 ∧ j = .int .i64 k ∧ Hid (S.isL (l.drop k) (i.drop k) = R)) (fun j => 4 - (intOf j).toNat)
  case atStart => exact ⟨0, by omega, rfl, HRES⟩
  case round =>
    obtain ⟨k, hk, rfl, HIS⟩ := hrel
    by_cases hlt : k < 4
    · have hix := fun (W : World) => HI.out k hlt W
      have hd := HD.out k hlt
      generalize i.getD k 0 = x at hix hd
      by_cases hkl : k < l.length
      · obtain ⟨ad, rfl, hcl⟩ := HR.out.at_ hkl
        have hls := S.drop_at l hkl
        generalize l.getD k 0 = s at *
        by_cases hx0 : x < 0
        · have HF := Lib.hid (show false = R by rw [← HIS.out, hls, hd, S.isL, if_neg (by omega)])
          clear hd hls
          go_wp2_with fail
          go_ret
          exact ⟨ret_bool HF.out, HB.out _⟩
        by_cases hx1 : s ≤ x
        · have HF := Lib.hid (show false = R by rw [← HIS.out, hls, hd, S.isL, if_neg (by omega)])
          clear hd hls
          go_wp2_with fail
          go_ret
          exact ⟨ret_bool HF.out, HB.out _⟩
        have HIS2 := Lib.hid (show S.isL (l.drop (k + 1)) (i.drop (k + 1)) = R by rw [← HIS.out, hls, hd, S.isL, if_pos (by omega)])
        clear hd hls
        go_wp2_with fail
        go_round
        case rel => exact ⟨k + 1, by omega, by go_num, HIS2⟩
        case measure => simp [intOf]; omega
      · have hls : l.drop k = [] := List.drop_eq_nil_of_le (by omega)
        have hls2 : l.drop (k + 1) = [] := List.drop_eq_nil_of_le (by omega)
        by_cases hx : x = 0
        · have hx0 : (x != 0) = false := by simp [hx]
          have hx1 : ¬ x < 0 := by omega
          have HIS2 := Lib.hid (show S.isL (l.drop (k + 1)) (i.drop (k + 1)) = R by rw [← HIS.out, hls, hls2, hd, S.isL, if_pos hx])
          clear hd hls hls2 hx
          go_wp2_with fail
          go_round
          case rel => exact ⟨k + 1, by omega, by go_num, HIS2⟩
          case measure => simp [intOf]; omega
        · have hx0 : (x != 0) = true := by simp [hx]
          have HF := Lib.hid (show false = R by rw [← HIS.out, hls, hd, S.isL, if_neg hx])
          clear hd hls hls2 hx
          go_wp2_with fail
          go_ret
          exact ⟨ret_bool HF.out, HB.out _⟩
    · obtain rfl : k = 4 := by omega
      have HT := Lib.hid (show true = R by rw [← HIS.out, HD4.out]; cases l.drop 4 <;> rfl)
      go_wp2_with fail
      go_ret
      exact ⟨ret_bool HT.out, HB.out _⟩

set_option maxHeartbeats 400000 in
theorem refNumber_any (A : Option Addr) (cp : Nat) (l : List Int) (a b c d : Int) (w : World) (hr : RI .i64 w A l) (hcap : l.length ≤ cp) (hok : S.Ok l) (his : S.isL l [a, b, c, d] = true) :
    Calls Try.prog 22 #[.slice A l.length cp, .agg (four a b c d)] w fun e w' => e = .returned (.int .i64 (S.sumL l [a, b, c, d])) ∧ Below w.heap.size w w' := by
  have hl := hok.1
  have HB := Lib.hid fun (o : Obj) => (Below.refl w.heap.size w).alloc (Nat.le_refl _) o
  have HR := Lib.hid (hr.below (HB.out (.cells (four a b c d) 32)))
  have C := Lib.hid fun (k : Nat) (n : Nat) (hk : k < l.length) => Stride_any A cp l k ((w.alloc (.cells (four a b c d) 32)).drewN n) (HR.out.drewN n) hcap hok hk
  have HG := Lib.hid fun (k : Nat) (hk : k < 4) => ((Blk.new w 32 (four a b c d)).cell k).trans (four_get a b c d k hk)
  have HS := Lib.hid fun (k : Nat) (hk : k < l.length) => S.sum_step l [a, b, c, d] k hk (by show l.length ≤ 4; exact hl) hok.2.1 his
  have hp := hok.2.2
  have HP := Lib.hid hp
  have HE := Lib.hid (S.sumTo_all l [a, b, c, d] (by show l.length ≤ 4; exact hl))
  have HZ := Lib.hid (S.sumTo_zero l [a, b, c, d])
  clear hr hok his
  rw [← HE.out]
  go_enter Try.func22, Try.ntmps22
  go_wp2_with fail
  go_loopw [5, 9] (fun n j wr => ∃ (k m : Nat), k ≤ l.length ∧ j = .int .i64 k ∧ n = .int .i64 (S.sumTo l [a, b, c, d] k) ∧ wr = (w.alloc (.cells (four a b c d) 32)).drewN m) (fun _ j _ => l.length - (intOf j).toNat)
  case atStart => exact ⟨0, 0, by omega, rfl, by rw [HZ.out], rfl⟩
  case round =>
    obtain ⟨k, m, hk, rfl, rfl, rfl⟩ := hrel
    by_cases hlt : k < l.length
    · have hg := HG.out k (by omega)
      obtain ⟨h1, h2, h3, h4, h5⟩ := HS.out k hlt
      have H5 := Lib.hid h5
      have C5 := Lib.hid fun (n : Nat) => C.out k n hlt
      clear h5
      generalize [a, b, c, d].getD k 0 = x at *
      generalize S.stride l k = y at *
      generalize S.sumTo l [a, b, c, d] k = s at *
      have hi0 : (0 : Int) ≤ (k : Int) := by omega
      have hi1 : (k : Int) < 4 := by omega
      go_wp2_with fail
      go_quiet ((go_at_call 18; exact quietN (C5.out _)))
      go_wp2_with fail
      go_roundw
      case rel => exact ⟨k + 1, _, by omega, by go_num, by rw [← H5.out], rfl⟩
      case measure => simp [intOf]; omega
    · obtain rfl : k = l.length := by omega
      go_wp2_with fail
      go_ret
      exact ⟨rfl, below_drewN (HB.out _) m⟩
end Go.Proofs.Ytdaajncfhcpecaa
