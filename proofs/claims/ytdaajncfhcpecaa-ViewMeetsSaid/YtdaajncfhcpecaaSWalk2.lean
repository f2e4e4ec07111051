/- The walks of chapter 7's functions: the reference's Stride; Number. No condition. -/
import Derived.Test.YtdaajncfhcpecaaSWalk
namespace Go.Proofs.Ytdaajncfhcpecaa
set_option linter.unusedVariables false
set_option linter.unusedSimpArgs false
open Go.RowKit
set_option maxHeartbeats 400000 in
theorem Strides_no (A : Option Addr) (c : Nat) (l : List Int) (w : World) (hr : RI .i64 w A l) (hm : l.length ≤ 9223372036854775807) (hno : ¬ S.Ok l) :
    Calls Try.prog 17 #[.slice A l.length c] w fun e w' => e = .returned (.slice none 0 0) ∧ w = w' := by
  have c1 := size_any A c l w hr hm
  rcases S.size_cases l with ho | ⟨ho, h⟩ | ⟨ho, h⟩
  · exact absurd ho hno
  all_goals
    rw [h] at c1
    have C1 := Lib.hid c1
    clear c1 h hno hr ho
    go_enter Try.func17, Try.ntmps17
    go_wp2_with fail
    with_reducible refine C1.out.mono ?_
    rintro e w' ⟨rfl, rfl⟩
    go_wp2_with fail
    go_ret
    exact ⟨rfl, rfl⟩

set_option maxHeartbeats 400000 in
theorem Stride_any (A : Option Addr) (c : Nat) (l : List Int) (k : Nat) (w : World) (hr : RI .i64 w A l) (hc : l.length ≤ c) (hok : S.Ok l) (hk : k < l.length) :
    Calls Try.prog 18 #[.slice A l.length c, .int .i64 k] w fun e w' => e = .returned (.int .i64 (S.stride l k)) ∧ w = w' := by
  have hl := hok.1
  have hcut := hr.cut (m := k + 1) (c := c) (by omega) hc
  obtain ⟨ad, rfl, _⟩ := hr.at_ hk
  have HS := Lib.hid (show S.stride l k = S.prod (l.drop (k + 1)) from rfl)
  have hp := S.prod_drop_le l (k + 1) hok.2.1
  have hp0 := hok.2.2
  have hpos : ∀ r ∈ l.drop (k + 1), 1 ≤ r := fun r hr => hok.2.1 r (List.mem_of_mem_drop hr)
  have hlen : (l.drop (k + 1)).length = l.length - (k + 1) := List.length_drop ..
  rw [HS.out]
  have hp4 : S.prod (l.drop (k + 1)) ≤ 4096 := by omega
  clear hok hr hp hp0 HS
  generalize l.drop (k + 1) = m at *
  have HPO := Lib.hid hpos
  have HP4 := Lib.hid hp4
  have hkn : k + 1 ≤ l.length := by omega
  generalize l.length = n at *
  obtain rfl : n = k + 1 + m.length := by omega
  clear hlen hpos hp4 hkn hk
  have hm4 : m.length ≤ 4 := by omega
  have hk4 : k ≤ 4 := by omega
  clear hl
  by_cases hck : c = k + 1
  · have hm0 : m = [] := List.eq_nil_of_length_eq_zero (by omega)
    subst hm0
    subst hck
    clear hcut hc
    go_enter Try.func18, Try.ntmps18
    go_wp2_with fail
    refine wp_loop_rounds 1 ?_
    rw [rounds_succ]
    go_wp2_with fail
    go_ret
    exact ⟨rfl, rfl⟩
  · rw [if_neg hck] at hcut
    have HC := Lib.hid hcut
    clear hcut
    go_enter Try.func18, Try.ntmps18
    go_wp2_with fail
    go_loop [5, 13] (fun n i => ∃ (j : Nat) (x : Int), j ≤ m.length ∧ i = .int .i64 j ∧ n = .int .i64 x ∧ 1 ≤ x ∧ Hid (x * S.prod (m.drop j) = S.prod m)) (fun _ i => m.length - (intOf i).toNat)
    case atStart => exact ⟨0, 1, by omega, rfl, rfl, by omega, Lib.hid (by rw [Int.one_mul]; rfl)⟩
    case round =>
      obtain ⟨j, x, hj, rfl, rfl, hx, H⟩ := hrel
      by_cases hlt : j < m.length
      · obtain ⟨ad2, had, hcl⟩ := HC.out.at_ hlt
        obtain rfl : ad.add (k + 1) = ad2 := by injection had
        have hr1 := HPO.out _ (S.getD_mem hlt)
        have hq := S.prod_drop_pos m (j + 1) HPO.out
        have HN := Lib.hid (show x * m.getD j 0 * S.prod (m.drop (j + 1)) = S.prod m by rw [← H.out, S.prod_drop_at m hlt, Int.mul_assoc]; rfl)
        have hcl2 : w.cell? ⟨ad.block, ad.off + (k + 1) + j, none⟩ = some (.int .i64 (m.getD j 0)) := by
          have e : (ad.add (k + 1)).add j = ⟨ad.block, ad.off + (k + 1) + j, none⟩ := by
            unfold Addr.add
            by_cases hj0 : j = 0 <;> simp [hj0]
          rw [← e]
          exact hcl
        clear had hcl
        generalize m.getD j 0 = r at *
        have hxr := S.mul_pos' hx hr1
        have hxr2 : x * r ≤ 4096 := by
          have h1 := S.mul_ge hxr hq
          have h2 := HN.out
          have h3 := HP4.out
          omega
        go_wp2
        go_round
        case rel => exact ⟨j + 1, x * r, by omega, by go_num, by go_num, hxr, HN⟩
        case measure => simp [intOf]; omega
      · have HE := Lib.hid (show x = S.prod m by have := H.out; rw [List.drop_eq_nil_of_le (by omega), S.prod, Int.mul_one] at this; exact this)
        go_wp2
        go_ret
        exact ⟨ret_int HE.out, rfl⟩
end Go.Proofs.Ytdaajncfhcpecaa
