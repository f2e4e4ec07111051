/- The walks of chapter 7's functions: Size, Strides, Number; the reference's Size, Stride. No condition. -/
import Derived.Test.YtpkpadepccneeaaGreatDoorL01
import Derived.Test.YtpkpadepccneeaaGreatDoorL17
namespace Go.Proofs.YtpkpadepccneeaaGreatDoor.W
set_option maxRecDepth 100000
set_option linter.unusedVariables false
set_option linter.unusedSimpArgs false
open Go.RowKit
theorem infoInt : (Tryz.prog.info? 3).map (fun i => (i.zero, i.size, i.bytes)) = some (some (.int .i64 0), 1, 8) := by kernel_rfl

set_option maxHeartbeats 400000 in
theorem size_any (A : Option Addr) (c : Nat) (l : List Int) (w : World) (hr : RI .i64 w A l) (hm : l.length ≤ 9223372036854775807) :
    Calls Tryz.prog 128 #[.slice A l.length c] w fun e w' => e = .returned (.tuple #[.int .i64 (S.sizeS l).1, .int .i64 (S.sizeS l).2]) ∧ w = w' := by
  by_cases h12 : 4 < l.length
  · have hd := Lib.hid (show S.sizeS l = (0, 1) by unfold S.sizeS; rw [if_pos h12])
    go_enter Tryz.func128, Tryz.ntmps128
    go_wp2
    go_ret2
    rw [hd.out]
    exact ⟨rfl, rfl⟩
  · have hd := Lib.hid (show S.sizeS l = S.sizeL 1 l by unfold S.sizeS; rw [if_neg h12])
    have hr' := Lib.hid hr
    clear hr
    go_enter Tryz.func128, Tryz.ntmps128
    go_wp2
    go_loop [4, 12] (fun n i => ∃ (k : Nat) (x : Int), k ≤ l.length ∧ i = .int .i64 k ∧ n = .int .i64 x ∧ 1 ≤ x ∧ x ≤ 4096 ∧ Hid (S.sizeL x (l.drop k) = S.sizeS l)) (fun _ i => l.length - (intOf i).toNat)
    case atStart => exact ⟨0, 1, by omega, rfl, rfl, by omega, by omega, Lib.hid (by rw [hd.out]; rfl)⟩
    case round =>
      obtain ⟨k, x, hk, rfl, rfl, hx1, hx2, H⟩ := hrel
      by_cases hlt : k < l.length
      · obtain ⟨ad, rfl, hc⟩ := hr'.out.at_ hlt
        have HS := Lib.hid (drop_at l hlt)
        generalize l.getD k 0 = r at hc HS
        by_cases h2 : r < 1
        · have e := Lib.hid (show S.sizeS l = (0, 5) by rw [← H.out, HS.out, S.sizeL, if_pos (.inl h2)])
          go_wp2
          go_ret2
          rw [e.out]
          exact ⟨rfl, rfl⟩
        · by_cases h3 : 4096 / x < r
          · have e := Lib.hid (show S.sizeS l = (0, 5) by rw [← H.out, HS.out, S.sizeL, if_pos (.inr h3)])
            have h3b : decide (4096 / x < r) = true := decide_eq_true h3
            go_wp2
            go_ret2
            rw [e.out]
            exact ⟨rfl, rfl⟩
          · have hf := S.mul_fits hx1 h3
            have hp := S.mul_pos' hx1 (show 1 ≤ r by omega)
            have h3b : decide (4096 / x < r) = false := decide_eq_false h3
            have HN := Lib.hid (show S.sizeL (x * r) (l.drop (k + 1)) = S.sizeS l by rw [← H.out, HS.out, S.sizeL, if_neg (by rintro (h | h); exact h2 h; exact h3 h)])
            clear h3
            go_wp2
            go_round
            case rel => exact ⟨k + 1, x * r, by omega, by go_num, by go_num, hp, hf, HN⟩
            case measure => simp [intOf]; omega
      · have e := Lib.hid (show S.sizeS l = (x, 0) by rw [← H.out, List.drop_eq_nil_of_le (by omega)]; rfl)
        go_wp2
        go_ret2
        rw [e.out]
        exact ⟨rfl, rfl⟩

set_option maxHeartbeats 400000 in
/-- The reference's Size is Size. -/
theorem refSize_any (A : Option Addr) (c : Nat) (l : List Int) (w : World) (hr : RI .i64 w A l) (hm : l.length ≤ 9223372036854775807) :
    Calls Tryz.prog 42 #[.slice A l.length c] w fun e w' => e = .returned (.tuple #[.int .i64 (S.sizeS l).1, .int .i64 (S.sizeS l).2]) ∧ w = w' := by
  by_cases h12 : 4 < l.length
  · have hd := Lib.hid (show S.sizeS l = (0, 1) by unfold S.sizeS; rw [if_pos h12])
    go_enter Tryz.func42, Tryz.ntmps42
    go_wp2
    go_ret2
    rw [hd.out]
    exact ⟨rfl, rfl⟩
  · have hd := Lib.hid (show S.sizeS l = S.refL 1 l by unfold S.sizeS; rw [if_neg h12, S.refL_eq l 1 (by omega) (by omega)])
    have hr' := Lib.hid hr
    clear hr
    go_enter Tryz.func42, Tryz.ntmps42
    go_wp2
    go_loop [4, 12] (fun n i => ∃ (k : Nat) (x : Int), k ≤ l.length ∧ i = .int .i64 k ∧ n = .int .i64 x ∧ 1 ≤ x ∧ x ≤ 4096 ∧ Hid (S.refL x (l.drop k) = S.sizeS l)) (fun _ i => l.length - (intOf i).toNat)
    case atStart => exact ⟨0, 1, by omega, rfl, rfl, by omega, by omega, Lib.hid (by rw [hd.out]; rfl)⟩
    case round =>
      obtain ⟨k, x, hk, rfl, rfl, hx1, hx2, H⟩ := hrel
      by_cases hlt : k < l.length
      · obtain ⟨ad, rfl, hc⟩ := hr'.out.at_ hlt
        have HS := Lib.hid (drop_at l hlt)
        generalize l.getD k 0 = r at hc HS
        by_cases h2 : r < 1
        · have e := Lib.hid (show S.sizeS l = (0, 5) by rw [← H.out, HS.out, S.refL, if_pos (.inl h2)])
          go_wp2
          go_ret2
          rw [e.out]
          exact ⟨rfl, rfl⟩
        · by_cases h3 : 4096 < r
          · have e := Lib.hid (show S.sizeS l = (0, 5) by rw [← H.out, HS.out, S.refL, if_pos (.inr h3)])
            go_wp2
            go_ret2
            rw [e.out]
            exact ⟨rfl, rfl⟩
          · have hp := S.mul_pos' hx1 (show 1 ≤ r by omega)
            have hb2 : x * r ≤ 4096 * 4096 := Int.mul_le_mul hx2 (by omega) (by omega) (by omega)
            by_cases h4 : 4096 < x * r
            · have e := Lib.hid (show S.sizeS l = (0, 5) by rw [← H.out, HS.out, S.refL, if_neg (by omega), if_pos h4])
              go_wp2
              go_ret2
              rw [e.out]
              exact ⟨rfl, rfl⟩
            · have HN := Lib.hid (show S.refL (x * r) (l.drop (k + 1)) = S.sizeS l by rw [← H.out, HS.out, S.refL, if_neg (by omega), if_neg h4])
              go_wp2
              go_round
              case rel => exact ⟨k + 1, x * r, by omega, by go_num, by go_num, hp, by omega, HN⟩
              case measure => simp [intOf]; omega
      · have e := Lib.hid (show S.sizeS l = (x, 0) by rw [← H.out, List.drop_eq_nil_of_le (by omega)]; rfl)
        go_wp2
        go_ret2
        rw [e.out]
        exact ⟨rfl, rfl⟩

set_option maxHeartbeats 400000 in
theorem Strides_yes (A : Option Addr) (c : Nat) (l : List Int) (w : World) (hr : RI .i64 w A l) (hok : S.Ok l) :
    Calls Tryz.prog 256 #[.slice A l.length c] w fun e w' => ∃ v, e = .returned v ∧ OI .i64 3 w' w.heap.size v (S.strides l) ∧ Below w.heap.size w w' := by
  have hl := hok.1
  have hp := hok.2.2
  have C1 := Lib.hid (size_any A c l w hr (by omega))
  rw [hok.size] at C1
  have hr' := Lib.hid hr
  have HK := Lib.hid hok
  clear hr hok
  generalize S.prod l = p0 at C1
  go_enter Tryz.func256, Tryz.ntmps256
  go_wp2_with fail
  with_reducible refine C1.out.mono ?_
  rintro e w' ⟨rfl, rfl⟩
  go_wp2_with (refine wpList_makeI rfl (.tmp 16) (.tmp 16) 27 rfl w.heap.size 3 .i64 8 Tryz.underlying27 infoInt (by decide) .i64 .i64 l.length rfl rfl (by omega) (Nat.le_refl _) ?_; intro w1 ho1 hb1 hs1; have HO1 := Lib.hid ho1; have HB1 := Lib.hid hb1; clear ho1 hb1)
  go_loopw [6, 7] (fun n i wr => ∃ j : Nat, j ≤ l.length ∧ i = .int .i64 ((j : Int) - 1) ∧ n = .int .i64 (S.prod (l.drop j)) ∧ Hid (OI .i64 3 wr w.heap.size (.slice (some ⟨w.heap.size, 0, none⟩) l.length l.length) (S.sfill l j)) ∧ Hid (Below w.heap.size w wr)) (fun _ i _ => (intOf i + 1).toNat)
  case atStart => exact ⟨l.length, by omega, rfl, by rw [List.drop_length]; rfl, Lib.hid (by rw [S.sfill_top]; exact HO1.out), HB1⟩
  case round =>
    obtain ⟨j, hj, rfl, rfl, HO, HB⟩ := hrel
    by_cases hlt : 1 ≤ j
    · obtain ⟨k, rfl⟩ : ∃ k, j = k + 1 := ⟨j - 1, by omega⟩
      have hk : k < l.length := by omega
      obtain ⟨ad, rfl, hcl⟩ := (hr'.out.below HB.out).at_ hk
      have hr1 := HK.out.2.1 _ (S.getD_mem hk)
      have hlen := S.sfill_length l (k + 1)
      have hc := (show OI .i64 3 wr w.heap.size (.slice (some ⟨w.heap.size, 0, none⟩) (S.sfill l (k + 1)).length l.length) (S.sfill l (k + 1)) by rw [hlen]; exact HO.out).cellAt (show k < _ by rw [hlen]; exact hk)
      have hf := HO.out.frozenAt hlen.symm k
      have hb1 := S.prod_drop_pos l (k + 1) HK.out.2.1
      have hb2 : S.prod (l.drop (k + 1)) * l.getD k 0 = S.prod (l.drop k) := by rw [S.prod_drop_at l hk, Int.mul_comm]; rfl
      have hb3 := S.prod_drop_le l k HK.out.2.1
      have hb4 := S.prod_drop_le l (k + 1) HK.out.2.1
      have hb5 := S.prod_drop_pos l k HK.out.2.1
      have HN := Lib.hid (show OI .i64 3 (wr.setCell ⟨w.heap.size, k, none⟩ (.int .i64 (S.prod (l.drop (k + 1))))) w.heap.size (.slice (some ⟨w.heap.size, 0, none⟩) l.length l.length) (S.sfill l k) by
        have := HO.out.stored hlen.symm k (S.stride l k)
        rw [S.sfill_set l k hk] at this
        exact this)
      obtain ⟨ad2, had, hcl2⟩ := (hr'.out.below (HB.out.setCell (p := ⟨w.heap.size, k, none⟩) (by simp) (.int .i64 (S.prod (l.drop (k + 1)))))).at_ hk
      obtain rfl : ad = ad2 := by injection had
      clear had
      have HB2 := Lib.hid hb2
      have hw : 0 ≤ S.prod (l.drop (k + 1)) * l.getD k 0 ∧ S.prod (l.drop (k + 1)) * l.getD k 0 ≤ 4096 := by rw [hb2]; omega
      obtain ⟨hw1, hw2⟩ := hw
      clear hb2 hlen hb3 hb4 hb5
      generalize S.sfill l (k + 1) = t at *
      generalize t.getD k 0 = y at *
      generalize l.getD k 0 = r at *
      generalize S.prod (l.drop (k + 1)) = p at *
      have hi0 : ((k + 1 : Nat) : Int) - 1 = (k : Int) := by omega
      rw [hi0]
      go_wp2_with fail
      go_roundw
      case rel => exact ⟨k, by omega, by go_num, by rw [← HB2.out], HN, Lib.hid (HB.out.setCell (by simp) _)⟩
      case measure => simp [intOf]
    · obtain rfl : j = 0 := by omega
      go_wp2
      go_ret
      exact ⟨_, rfl, by have h := HO.out; rw [S.sfill_zero] at h; unfold OI; rw [S.strides_length]; unfold OI at h; rw [S.strides_length] at h; exact h, HB.out⟩
end Go.Proofs.YtpkpadepccneeaaGreatDoor.W

/- The walks of chapter 7's functions: the reference's Stride; Number. No condition. -/
namespace Go.Proofs.YtpkpadepccneeaaGreatDoor.W
set_option maxRecDepth 100000
set_option linter.unusedVariables false
set_option linter.unusedSimpArgs false
open Go.RowKit
set_option maxHeartbeats 400000 in
theorem Strides_no (A : Option Addr) (c : Nat) (l : List Int) (w : World) (hr : RI .i64 w A l) (hm : l.length ≤ 9223372036854775807) (hno : ¬ S.Ok l) :
    Calls Tryz.prog 256 #[.slice A l.length c] w fun e w' => e = .returned (.slice none 0 0) ∧ w = w' := by
  have c1 := size_any A c l w hr hm
  rcases S.size_cases l with ho | ⟨ho, h⟩ | ⟨ho, h⟩
  · exact absurd ho hno
  all_goals
    rw [h] at c1
    have C1 := Lib.hid c1
    clear c1 h hno hr ho
    go_enter Tryz.func256, Tryz.ntmps256
    go_wp2_with fail
    with_reducible refine C1.out.mono ?_
    rintro e w' ⟨rfl, rfl⟩
    go_wp2_with fail
    go_ret
    exact ⟨rfl, rfl⟩

set_option maxHeartbeats 400000 in
theorem Stride_any (A : Option Addr) (c : Nat) (l : List Int) (k : Nat) (w : World) (hr : RI .i64 w A l) (hc : l.length ≤ c) (hok : S.Ok l) (hk : k < l.length) :
    Calls Tryz.prog 87 #[.slice A l.length c, .int .i64 k] w fun e w' => e = .returned (.int .i64 (S.stride l k)) ∧ w = w' := by
  have hl := hok.1
  have hcut := hr.cut (m := k + 1) (c := c) (by omega) hc
  obtain ⟨ad, rfl, _⟩ := hr.at_ hk
  have HS := Lib.hid (show S.stride l k = S.prod (l.drop (k + 1)) from rfl)
  have hp := S.prod_drop_le l (k + 1) hok.2.1
  have hp0 := hok.2.2
  have hpos : ∀ r ∈ l.drop (k + 1), 1 ≤ r := fun r hr => hok.2.1 r (List.mem_of_mem_drop hr)
  have hlen : (l.drop (k + 1)).length = l.length - (k + 1) := List.length_drop ..
  rw [HS.out]
  have hp4 : S.prod (l.drop (k + 1)) ≤ 4096 := by omega
  clear hok hr hp hp0 HS
  generalize l.drop (k + 1) = m at *
  have HPO := Lib.hid hpos
  have HP4 := Lib.hid hp4
  have hkn : k + 1 ≤ l.length := by omega
  generalize l.length = n at *
  obtain rfl : n = k + 1 + m.length := by omega
  clear hlen hpos hp4 hkn hk
  have hm4 : m.length ≤ 4 := by omega
  have hk4 : k ≤ 4 := by omega
  clear hl
  by_cases hck : c = k + 1
  · have hm0 : m = [] := List.eq_nil_of_length_eq_zero (by omega)
    subst hm0
    subst hck
    clear hcut hc
    go_enter Tryz.func87, Tryz.ntmps87
    go_wp2_with fail
    refine wp_loop_rounds 1 ?_
    rw [rounds_succ]
    go_wp2_with fail
    go_ret
    exact ⟨rfl, rfl⟩
  · rw [if_neg hck] at hcut
    have HC := Lib.hid hcut
    clear hcut
    go_enter Tryz.func87, Tryz.ntmps87
    go_wp2_with fail
    go_loop [5, 13] (fun n i => ∃ (j : Nat) (x : Int), j ≤ m.length ∧ i = .int .i64 j ∧ n = .int .i64 x ∧ 1 ≤ x ∧ Hid (x * S.prod (m.drop j) = S.prod m)) (fun _ i => m.length - (intOf i).toNat)
    case atStart => exact ⟨0, 1, by omega, rfl, rfl, by omega, Lib.hid (by rw [Int.one_mul]; rfl)⟩
    case round =>
      obtain ⟨j, x, hj, rfl, rfl, hx, H⟩ := hrel
      by_cases hlt : j < m.length
      · obtain ⟨ad2, had, hcl⟩ := HC.out.at_ hlt
        obtain rfl : ad.add (k + 1) = ad2 := by injection had
        have hr1 := HPO.out _ (S.getD_mem hlt)
        have hq := S.prod_drop_pos m (j + 1) HPO.out
        have HN := Lib.hid (show x * m.getD j 0 * S.prod (m.drop (j + 1)) = S.prod m by rw [← H.out, S.prod_drop_at m hlt, Int.mul_assoc]; rfl)
        have hcl2 : w.cell? ⟨ad.block, ad.off + (k + 1) + j, none⟩ = some (.int .i64 (m.getD j 0)) := by
          have e : (ad.add (k + 1)).add j = ⟨ad.block, ad.off + (k + 1) + j, none⟩ := by
            unfold Addr.add
            by_cases hj0 : j = 0 <;> simp [hj0]
          rw [← e]
          exact hcl
        clear had hcl
        generalize m.getD j 0 = r at *
        have hxr := S.mul_pos' hx hr1
        have hxr2 : x * r ≤ 4096 := by
          have h1 := S.mul_ge hxr hq
          have h2 := HN.out
          have h3 := HP4.out
          omega
        go_wp2
        go_round
        case rel => exact ⟨j + 1, x * r, by omega, by go_num, by go_num, hxr, HN⟩
        case measure => simp [intOf]; omega
      · have HE := Lib.hid (show x = S.prod m by have := H.out; rw [List.drop_eq_nil_of_le (by omega), S.prod, Int.mul_one] at this; exact this)
        go_wp2
        go_ret
        exact ⟨ret_int HE.out, rfl⟩
end Go.Proofs.YtpkpadepccneeaaGreatDoor.W

/- The walk of chapter 7's Number. No condition. -/
namespace Go.Proofs.YtpkpadepccneeaaGreatDoor.W
set_option maxRecDepth 100000
set_option linter.unusedVariables false
set_option linter.unusedSimpArgs false
open Go.RowKit
abbrev four (a b c d : Int) : Array Value := #[.int .i64 a, .int .i64 b, .int .i64 c, .int .i64 d]
theorem index33_0 (a b c d : Int) (w : World) : (Instr.index 170 (.agg #[.int .i64 a, .int .i64 b, .int .i64 c, .int .i64 d]) (.int .i64 0)).run Tryz.prog w = .ok (.int .i64 a) w := by kernel_rfl
theorem index33_1 (a b c d : Int) (w : World) : (Instr.index 170 (.agg #[.int .i64 a, .int .i64 b, .int .i64 c, .int .i64 d]) (.int .i64 1)).run Tryz.prog w = .ok (.int .i64 b) w := by kernel_rfl
theorem index33_2 (a b c d : Int) (w : World) : (Instr.index 170 (.agg #[.int .i64 a, .int .i64 b, .int .i64 c, .int .i64 d]) (.int .i64 2)).run Tryz.prog w = .ok (.int .i64 c) w := by kernel_rfl
theorem index33_3 (a b c d : Int) (w : World) : (Instr.index 170 (.agg #[.int .i64 a, .int .i64 b, .int .i64 c, .int .i64 d]) (.int .i64 3)).run Tryz.prog w = .ok (.int .i64 d) w := by kernel_rfl
theorem index33 (a b c d : Int) (k : Nat) (hk : k < 4) (w : World) : (Instr.index 170 (.agg #[.int .i64 a, .int .i64 b, .int .i64 c, .int .i64 d]) (.int .i64 (k : Int))).run Tryz.prog w = .ok (.int .i64 ([a, b, c, d].getD k 0)) w :=
  match k, hk with
  | 0, _ => index33_0 a b c d w
  | 1, _ => index33_1 a b c d w
  | 2, _ => index33_2 a b c d w
  | 3, _ => index33_3 a b c d w
end Go.Proofs.YtpkpadepccneeaaGreatDoor.W

/- The walks of chapter 7's alive, and of the law ShapeSizes. No condition. -/
namespace Go.Proofs.YtpkpadepccneeaaGreatDoor.W
set_option maxRecDepth 100000
set_option linter.unusedVariables false
set_option linter.unusedSimpArgs false
open Go.RowKit
/-- What the walk is told of a slice of whole numbers that came in, as a list of its elements. -/
theorem row_of {k : IntKind} {w : World} {a : Option Addr} {len cap : Nat} {zs : List Int}
    (h : (a = none ∧ len = 0 ∧ cap = 0 ∧ zs = []) ∨ ∃ x, a = some x ∧ len ≤ cap ∧ cap ≤ maxLen ∧ zs.length = cap ∧ (∀ i, i < zs.length → w.cell? (x.add i) = some (.int k (zs.getD i 0))) ∧ ∀ n ∈ zs, (Lit.int k n).wf = true) :
    ∃ l : List Int, len = l.length ∧ RI k w a l ∧ l.length ≤ maxLen ∧ l.length ≤ cap ∧ ∀ n ∈ l, (Lit.int k n).wf = true := by
  rcases h with ⟨rfl, rfl, rfl, rfl⟩ | ⟨x, rfl, hl, hc, hz, hcell, hwf⟩
  · exact ⟨[], rfl, RI.nil _ _ _, by simp, by simp, by simp⟩
  · refine ⟨zs.take len, by rw [List.length_take]; omega, fun i hi => ⟨x, rfl, ?_⟩, by rw [List.length_take]; omega, by rw [List.length_take]; omega, fun n hn => hwf n (List.mem_of_mem_take hn)⟩
    rw [List.length_take] at hi
    rw [hcell i (by omega), List.getD_eq_getElem?_getD, List.getD_eq_getElem?_getD, List.getElem?_take, if_pos (by omega)]
theorem RI.two {w : World} {e : TypeId} {a b : Int} {g : Nat} (h : w.heap[g]? = some (.cells #[.int .i64 a, .int .i64 b] e (0, 0))) : RI .i64 w (some ⟨g, 0, none⟩) [a, b] := by
  intro i hi
  refine ⟨_, rfl, ?_⟩
  match i, hi with
  | 0, _ => exact cell_of_row _ _ 0 _ e (0, 0) h
  | 1, _ => exact cell_of_row _ _ 1 _ e (0, 0) h
theorem Ok23 : S.Ok [2, 3] := ⟨by decide, by decide, by decide⟩
theorem strides23 (A : Option Addr) (W : World) (h : RI .i64 W A [2, 3]) : Calls Tryz.prog 256 #[.slice A 2 2] W fun e w' => ∃ A2 c2, e = .returned (.slice A2 2 c2) ∧ RI .i64 w' A2 [3, 1] ∧ Below W.heap.size W w' := by
  refine (Strides_yes A 2 [2, 3] W h Ok23).mono ?_
  rintro e w' ⟨v, rfl, ho, hb⟩
  rw [show S.strides [2, 3] = [3, 1] by decide] at ho
  obtain ⟨A2, c2, rfl, hr⟩ := ho.form
  exact ⟨A2, c2, rfl, hr, hb⟩
end Go.Proofs.YtpkpadepccneeaaGreatDoor.W

/- The walk of chapter 7's At. No condition. -/
namespace Go.Proofs.YtpkpadepccneeaaGreatDoor.W
set_option maxRecDepth 100000
set_option linter.unusedVariables false
set_option linter.unusedSimpArgs false
open Go.RowKit
/-- A block known whole. -/
def Blk (w : World) (g : Nat) (t : TypeId) (cs : Array Value) : Prop := w.heap[g]? = some (.cells cs t (0, 0))
section
variable {w w' : World} {g : Nat} {t : TypeId} {cs : Array Value}
theorem Blk.lt (h : Blk w g t cs) : g < w.heap.size := by
  rcases Nat.lt_or_ge g w.heap.size with hlt | hge
  · exact hlt
  · unfold Blk at h; rw [Array.getElem?_eq_none hge] at h; cases h
theorem Blk.cell (h : Blk w g t cs) (i : Nat) : w.cell? ⟨g, i, none⟩ = cs[i]? := cell_of_row w g i cs t (0, 0) h
theorem Blk.frozen (h : Blk w g t cs) (i : Nat) : w.frozen? ⟨g, i, none⟩ = false := frozen_of_row w g i cs t h
theorem Blk.new (w : World) (t : TypeId) (cs : Array Value) : Blk (w.alloc (.cells cs t)) w.heap.size t cs := heap_alloc_new w _
theorem Blk.drewN (h : Blk w g t cs) (n : Nat) : Blk (w.drewN n) g t cs := h
theorem Blk.alloc (h : Blk w g t cs) (o : Obj) : Blk (w.alloc o) g t cs := (Below.heap_alloc w o g h.lt).trans h
theorem Blk.set_ (h : Blk w g t cs) (i : Nat) (u : Value) : Blk (w.setCell ⟨g, i, none⟩ u) g t (cs.setIfInBounds i u) := heap_setCell_same w g i cs t u h
theorem Blk.far (h : Blk w g t cs) {p : Addr} (hp : g ≠ p.block) (u : Value) : Blk (w.setCell p u) g t cs := (Below.heap_setCell w p u g hp).trans h
theorem Blk.below {B : Nat} (h : Blk w g t cs) (hb : Below B w w') (hg : g < B) : Blk w' g t cs := (hb.block g hg).trans h
end
theorem four_set (x : List Int) (a b c d : Int) (hx : [a, b, c, d] = x) (k : Nat) (hk : k < 4) (v : Int) :
    ∃ a' b' c' d', (four a b c d).setIfInBounds k (.int .i64 v) = four a' b' c' d' ∧ [a', b', c', d'] = x.set k v := by
  subst hx
  match k, hk with
  | 0, _ => exact ⟨v, b, c, d, rfl, rfl⟩
  | 1, _ => exact ⟨a, v, c, d, rfl, rfl⟩
  | 2, _ => exact ⟨a, b, v, d, rfl, rfl⟩
  | 3, _ => exact ⟨a, b, c, v, rfl, rfl⟩
theorem four_get (a b c d : Int) (k : Nat) (hk : k < 4) : (four a b c d)[k]? = some (.int .i64 ([a, b, c, d].getD k 0)) := by
  match k, hk with
  | 0, _ => rfl
  | 1, _ => rfl
  | 2, _ => rfl
  | 3, _ => rfl
theorem list_four {x : List Int} (h : x.length = 4) : ∃ a b c d, x = [a, b, c, d] := by
  match x, h with
  | [a, b, c, d], _ => exact ⟨a, b, c, d, rfl⟩
end Go.Proofs.YtpkpadepccneeaaGreatDoor.W
