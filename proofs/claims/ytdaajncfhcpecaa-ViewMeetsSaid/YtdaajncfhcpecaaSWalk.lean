/- The walks of chapter 7's functions: Size, Strides, Number; the reference's Size, Stride. No condition. -/
import Derived.Test.YtdaajncfhcpecaaBase
import Derived.Test.YtdaajncfhcpecaaSMath
namespace Go.Proofs.Ytdaajncfhcpecaa
set_option linter.unusedVariables false
set_option linter.unusedSimpArgs false
open Go.RowKit
theorem infoInt : (Try.prog.info? 3).map (fun i => (i.zero, i.size, i.bytes)) = some (some (.int .i64 0), 1, 8) := by kernel_rfl

set_option maxHeartbeats 400000 in
theorem size_any (A : Option Addr) (c : Nat) (l : List Int) (w : World) (hr : RI .i64 w A l) (hm : l.length ≤ 9223372036854775807) :
    Calls Try.prog 15 #[.slice A l.length c] w fun e w' => e = .returned (.tuple #[.int .i64 (S.sizeS l).1, .int .i64 (S.sizeS l).2]) ∧ w = w' := by
  by_cases h12 : 4 < l.length
  · have hd := Lib.hid (show S.sizeS l = (0, 1) by unfold S.sizeS; rw [if_pos h12])
    go_enter Try.func15, Try.ntmps15
    go_wp2
    go_ret2
    rw [hd.out]
    exact ⟨rfl, rfl⟩
  · have hd := Lib.hid (show S.sizeS l = S.sizeL 1 l by unfold S.sizeS; rw [if_neg h12])
    have hr' := Lib.hid hr
    clear hr
    go_enter Try.func15, Try.ntmps15
    go_wp2
    go_loop [4, 12] (fun n i => ∃ (k : Nat) (x : Int), k ≤ l.length ∧ i = .int .i64 k ∧ n = .int .i64 x ∧ 1 ≤ x ∧ x ≤ 4096 ∧ Hid (S.sizeL x (l.drop k) = S.sizeS l)) (fun _ i => l.length - (intOf i).toNat)
    case atStart => exact ⟨0, 1, by omega, rfl, rfl, by omega, by omega, Lib.hid (by rw [hd.out]; rfl)⟩
    case round =>
      obtain ⟨k, x, hk, rfl, rfl, hx1, hx2, H⟩ := hrel
      by_cases hlt : k < l.length
      · obtain ⟨ad, rfl, hc⟩ := hr'.out.at_ hlt
        have HS := Lib.hid (drop_at l hlt)
        generalize l.getD k 0 = r at hc HS
        by_cases h2 : r < 1
        · have e := Lib.hid (show S.sizeS l = (0, 5) by rw [← H.out, HS.out, S.sizeL, if_pos (.inl h2)])
          go_wp2
          go_ret2
          rw [e.out]
          exact ⟨rfl, rfl⟩
        · by_cases h3 : 4096 / x < r
          · have e := Lib.hid (show S.sizeS l = (0, 5) by rw [← H.out, HS.out, S.sizeL, if_pos (.inr h3)])
            have h3b : decide (4096 / x < r) = true := decide_eq_true h3
            go_wp2
            go_ret2
            rw [e.out]
            exact ⟨rfl, rfl⟩
          · have hf := S.mul_fits hx1 h3
            have hp := S.mul_pos' hx1 (show 1 ≤ r by omega)
            have h3b : decide (4096 / x < r) = false := decide_eq_false h3
            have HN := Lib.hid (show S.sizeL (x * r) (l.drop (k + 1)) = S.sizeS l by rw [← H.out, HS.out, S.sizeL, if_neg (by rintro (h | h); exact h2 h; exact h3 h)])
            clear h3
            go_wp2
            go_round
            case rel => exact ⟨k + 1, x * r, by omega, by go_num, by go_num, hp, hf, HN⟩
            case measure => simp [intOf]; omega
      · have e := Lib.hid (show S.sizeS l = (x, 0) by rw [← H.out, List.drop_eq_nil_of_le (by omega)]; rfl)
        go_wp2
        go_ret2
        rw [e.out]
        exact ⟨rfl, rfl⟩

set_option maxHeartbeats 400000 in
/-- The reference's Size is Size. -/
theorem refSize_any (A : Option Addr) (c : Nat) (l : List Int) (w : World) (hr : RI .i64 w A l) (hm : l.length ≤ 9223372036854775807) :
    Calls Try.prog 16 #[.slice A l.length c] w fun e w' => e = .returned (.tuple #[.int .i64 (S.sizeS l).1, .int .i64 (S.sizeS l).2]) ∧ w = w' := by
  by_cases h12 : 4 < l.length
  · have hd := Lib.hid (show S.sizeS l = (0, 1) by unfold S.sizeS; rw [if_pos h12])
    go_enter Try.func16, Try.ntmps16
    go_wp2
    go_ret2
    rw [hd.out]
    exact ⟨rfl, rfl⟩
  · have hd := Lib.hid (show S.sizeS l = S.refL 1 l by unfold S.sizeS; rw [if_neg h12, S.refL_eq l 1 (by omega) (by omega)])
    have hr' := Lib.hid hr
    clear hr
    go_enter Try.func16, Try.ntmps16
    go_wp2
    go_loop [4, 12] (fun n i => ∃ (k : Nat) (x : Int), k ≤ l.length ∧ i = .int .i64 k ∧ n = .int .i64 x ∧ 1 ≤ x ∧ x ≤ 4096 ∧ Hid (S.refL x (l.drop k) = S.sizeS l)) (fun _ i => l.length - (intOf i).toNat)
    case atStart => exact ⟨0, 1, by omega, rfl, rfl, by omega, by omega, Lib.hid (by rw [hd.out]; rfl)⟩
    case round =>
      obtain ⟨k, x, hk, rfl, rfl, hx1, hx2, H⟩ := hrel
      by_cases hlt : k < l.length
      · obtain ⟨ad, rfl, hc⟩ := hr'.out.at_ hlt
        have HS := Lib.hid (drop_at l hlt)
        generalize l.getD k 0 = r at hc HS
        by_cases h2 : r < 1
        · have e := Lib.hid (show S.sizeS l = (0, 5) by rw [← H.out, HS.out, S.refL, if_pos (.inl h2)])
          go_wp2
          go_ret2
          rw [e.out]
          exact ⟨rfl, rfl⟩
        · by_cases h3 : 4096 < r
          · have e := Lib.hid (show S.sizeS l = (0, 5) by rw [← H.out, HS.out, S.refL, if_pos (.inr h3)])
            go_wp2
            go_ret2
            rw [e.out]
            exact ⟨rfl, rfl⟩
          · have hp := S.mul_pos' hx1 (show 1 ≤ r by omega)
            have hb2 : x * r ≤ 4096 * 4096 := Int.mul_le_mul hx2 (by omega) (by omega) (by omega)
            by_cases h4 : 4096 < x * r
            · have e := Lib.hid (show S.sizeS l = (0, 5) by rw [← H.out, HS.out, S.refL, if_neg (by omega), if_pos h4])
              go_wp2
              go_ret2
              rw [e.out]
              exact ⟨rfl, rfl⟩
            · have HN := Lib.hid (show S.refL (x * r) (l.drop (k + 1)) = S.sizeS l by rw [← H.out, HS.out, S.refL, if_neg (by omega), if_neg h4])
              go_wp2
              go_round
              case rel => exact ⟨k + 1, x * r, by omega, by go_num, by go_num, hp, by omega, HN⟩
              case measure => simp [intOf]; omega
      · have e := Lib.hid (show S.sizeS l = (x, 0) by rw [← H.out, List.drop_eq_nil_of_le (by omega)]; rfl)
        go_wp2
        go_ret2
        rw [e.out]
        exact ⟨rfl, rfl⟩

set_option maxHeartbeats 400000 in
theorem Strides_yes (A : Option Addr) (c : Nat) (l : List Int) (w : World) (hr : RI .i64 w A l) (hok : S.Ok l) :
    Calls Try.prog 17 #[.slice A l.length c] w fun e w' => ∃ v, e = .returned v ∧ OI .i64 3 w' w.heap.size v (S.strides l) ∧ Below w.heap.size w w' := by
  have hl := hok.1
  have hp := hok.2.2
  have C1 := Lib.hid (size_any A c l w hr (by omega))
  rw [hok.size] at C1
  have hr' := Lib.hid hr
  have HK := Lib.hid hok
  clear hr hok
  generalize S.prod l = p0 at C1
  go_enter Try.func17, Try.ntmps17
  go_wp2_with fail
  with_reducible refine C1.out.mono ?_
  rintro e w' ⟨rfl, rfl⟩
  go_wp2_with (refine wpList_makeI rfl (.tmp 16) (.tmp 16) 22 rfl w.heap.size 3 .i64 8 Try.underlying22 infoInt (by decide) .i64 .i64 l.length rfl rfl (by omega) (Nat.le_refl _) ?_; intro w1 ho1 hb1 hs1; have HO1 := Lib.hid ho1; have HB1 := Lib.hid hb1; clear ho1 hb1)
  go_loopw [6, 7] (fun n i wr => ∃ j : Nat, j ≤ l.length ∧ i = .int .i64 ((j : Int) - 1) ∧ n = .int .i64 (S.prod (l.drop j)) ∧ Hid (OI .i64 3 wr w.heap.size (.slice (some ⟨w.heap.size, 0, none⟩) l.length l.length) (S.sfill l j)) ∧ Hid (Below w.heap.size w wr)) (fun _ i _ => (intOf i + 1).toNat)
  case atStart => exact ⟨l.length, by omega, rfl, by rw [List.drop_length]; rfl, Lib.hid (by rw [S.sfill_top]; exact HO1.out), HB1⟩
  case round =>
    obtain ⟨j, hj, rfl, rfl, HO, HB⟩ := hrel
    by_cases hlt : 1 ≤ j
    · obtain ⟨k, rfl⟩ : ∃ k, j = k + 1 := ⟨j - 1, by omega⟩
      have hk : k < l.length := by omega
      obtain ⟨ad, rfl, hcl⟩ := (hr'.out.below HB.out).at_ hk
      have hr1 := HK.out.2.1 _ (S.getD_mem hk)
      have hlen := S.sfill_length l (k + 1)
      have hc := (show OI .i64 3 wr w.heap.size (.slice (some ⟨w.heap.size, 0, none⟩) (S.sfill l (k + 1)).length l.length) (S.sfill l (k + 1)) by rw [hlen]; exact HO.out).cellAt (show k < _ by rw [hlen]; exact hk)
      have hf := HO.out.frozenAt hlen.symm k
      have hb1 := S.prod_drop_pos l (k + 1) HK.out.2.1
      have hb2 : S.prod (l.drop (k + 1)) * l.getD k 0 = S.prod (l.drop k) := by rw [S.prod_drop_at l hk, Int.mul_comm]; rfl
      have hb3 := S.prod_drop_le l k HK.out.2.1
      have hb4 := S.prod_drop_le l (k + 1) HK.out.2.1
      have hb5 := S.prod_drop_pos l k HK.out.2.1
      have HN := Lib.hid (show OI .i64 3 (wr.setCell ⟨w.heap.size, k, none⟩ (.int .i64 (S.prod (l.drop (k + 1))))) w.heap.size (.slice (some ⟨w.heap.size, 0, none⟩) l.length l.length) (S.sfill l k) by
        have := HO.out.stored hlen.symm k (S.stride l k)
        rw [S.sfill_set l k hk] at this
        exact this)
      obtain ⟨ad2, had, hcl2⟩ := (hr'.out.below (HB.out.setCell (p := ⟨w.heap.size, k, none⟩) (by simp) (.int .i64 (S.prod (l.drop (k + 1)))))).at_ hk
      obtain rfl : ad = ad2 := by injection had
      clear had
      have HB2 := Lib.hid hb2
      have hw : 0 ≤ S.prod (l.drop (k + 1)) * l.getD k 0 ∧ S.prod (l.drop (k + 1)) * l.getD k 0 ≤ 4096 := by rw [hb2]; omega
      obtain ⟨hw1, hw2⟩ := hw
      clear hb2 hlen hb3 hb4 hb5
      generalize S.sfill l (k + 1) = t at *
      generalize t.getD k 0 = y at *
      generalize l.getD k 0 = r at *
      generalize S.prod (l.drop (k + 1)) = p at *
      have hi0 : ((k + 1 : Nat) : Int) - 1 = (k : Int) := by omega
      rw [hi0]
      go_wp2_with fail
      go_roundw
      case rel => exact ⟨k, by omega, by go_num, by rw [← HB2.out], HN, Lib.hid (HB.out.setCell (by simp) _)⟩
      case measure => simp [intOf]
    · obtain rfl : j = 0 := by omega
      go_wp2
      go_ret
      exact ⟨_, rfl, by have h := HO.out; rw [S.sfill_zero] at h; unfold OI; rw [S.strides_length]; unfold OI at h; rw [S.strides_length] at h; exact h, HB.out⟩
end Go.Proofs.Ytdaajncfhcpecaa
