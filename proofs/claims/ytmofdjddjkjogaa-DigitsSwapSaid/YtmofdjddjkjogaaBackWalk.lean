/- The walks of the reference's Back, and of the law DigitsBack, out of contracts. No condition. -/
import Derived.Test.YtmofdjddjkjogaaBWalk
namespace Go.Proofs.Ytmofdjddjkjogaa
open Go.RowKit
theorem rev_take (l : List Int) {k : Nat} (h : k < l.length) : l.reverse.take (k + 1) = l.reverse.take k ++ [l.getD (l.length - 1 - k) 0] := by
  have h2 : k < l.reverse.length := by simpa using h
  rw [List.take_succ_eq_append_getElem h2, List.getElem_reverse, List.getD_eq_getElem?_getD, List.getElem?_eq_getElem (by omega)]
  rfl
set_option maxHeartbeats 400000 in
theorem Back_any (A : Option Addr) (c : Nat) (l : List Int) (w : World) (hr : RI .i64 w A l) (hl : l.length ≤ 100) :
    Calls Try.prog 11 #[.slice A l.length c] w fun e w' => ∃ v, e = .returned v ∧ OI .i64 3 w' w.heap.size v l.reverse ∧ Below w.heap.size w w' := by
  have hr' := Lib.hid hr
  clear hr
  go_enter Try.func11, Try.ntmps11
  go_wp2
  go_loopw [3, 7] (fun v j wr => ∃ k : Nat, k ≤ l.length ∧ j = .int .i64 k ∧ Hid (OI .i64 3 wr w.heap.size v (l.reverse.take k)) ∧ Hid (Below w.heap.size w wr)) (fun _ j _ => l.length - (intOf j).toNat)
  case atStart => exact ⟨0, by omega, rfl, Lib.hid (OI.nil _ _ _ _), Lib.hid (Below.refl _ _)⟩
  case round =>
    obtain ⟨k, hk, rfl, HO, HB⟩ := hrel
    by_cases hlt : k < l.length
    · obtain ⟨ad, rfl, hc⟩ := (hr'.out.below HB.out).at_ (show l.length - 1 - k < l.length by omega)
      have HT := Lib.hid (rev_take l hlt)
      generalize l.getD (l.length - 1 - k) 0 = x at hc HT
      have hi0 : (0 : Int) ≤ (l.length : Int) - 1 - k := by omega
      have hlen : (l.reverse.take k).length + 1 ≤ 17592186044416 := by simp; omega
      have HL := Lib.hid hlen
      have hBs := HB.out.size
      clear hlen
      go_wp2_with (at_builtin; refine wpList_append1 (W := wr) rfl (.tmp 10) (.tmp 19) 22 rfl w.heap.size 3 .i64 8 Try.underlying22 infoInt (by decide) u3 (l.reverse.take k) x rfl rfl HO.out HL.out hBs ?_; intro v1 w1 hown hb1; have HO1 := Lib.hid hown; have HB1 := Lib.hid hb1; clear hown hb1)
      go_roundw
      case rel => exact ⟨k + 1, by omega, by go_num, Lib.hid (by rw [HT.out]; exact HO1.out), Lib.hid (HB.out.trans HB1.out)⟩
      case measure => simp [intOf]; omega
    · have HE := Lib.hid (show l.reverse.take k = l.reverse from List.take_of_length_le (by simp; omega))
      go_wp2
      go_ret
      exact ⟨_, rfl, by rw [← HE.out]; exact HO.out, HB.out⟩
/-- What the walk is told of a slice of whole numbers that came in, as a list of its elements. -/
theorem row_of {k : IntKind} {w : World} {a : Option Addr} {len cap : Nat} {zs : List Int}
    (h : (a = none ∧ len = 0 ∧ cap = 0 ∧ zs = []) ∨ ∃ x, a = some x ∧ len ≤ cap ∧ cap ≤ maxLen ∧ zs.length = cap ∧ (∀ i, i < zs.length → w.cell? (x.add i) = some (.int k (zs.getD i 0))) ∧ ∀ n ∈ zs, (Lit.int k n).wf = true) :
    ∃ l : List Int, len = l.length ∧ RI k w a l ∧ l.length ≤ maxLen ∧ ∀ n ∈ l, (Lit.int k n).wf = true := by
  rcases h with ⟨rfl, rfl, rfl, rfl⟩ | ⟨x, rfl, hl, hc, hz, hcell, hwf⟩
  · exact ⟨[], rfl, RI.nil _ _ _, by simp, by simp⟩
  · refine ⟨zs.take len, by rw [List.length_take]; omega, fun i hi => ⟨x, rfl, ?_⟩, by rw [List.length_take]; omega, fun n hn => hwf n (List.mem_of_mem_take hn)⟩
    rw [List.length_take] at hi
    rw [hcell i (by omega), List.getD_eq_getElem?_getD, List.getD_eq_getElem?_getD, List.getElem?_take, if_pos (by omega)]
theorem bounds_i64 {n : Int} (h : (Lit.int .i64 n).wf = true) : -9223372036854775808 ≤ n ∧ n ≤ 9223372036854775807 := by
  simp [Lit.wf, IntKind.min, IntKind.max, IntKind.signed, IntKind.bits] at h
  omega

set_option maxHeartbeats 400000 in
theorem back_law (A : Option Addr) (c : Nat) (l : List Int) (i : Int) (w : World) (hr : RI .i64 w A l) (hm : l.length ≤ 9223372036854775807) :
    Calls Try.prog 3 #[.slice A l.length c, .int .i64 i] w fun e w' => e = .returned (.bool true) ∧ Below w.heap.size w w' := by
  have hr' := Lib.hid hr
  clear hr
  by_cases h100 : 100 < l.length
  · go_enter Try.func3, Try.ntmps3
    go_wp2_with fail
    refine (alive_any w).mono ?_
    rintro e w1 ⟨rfl, hb1⟩
    go_wp2_with fail
    go_ret
    exact ⟨rfl, hb1⟩
  · go_enter Try.func3, Try.ntmps3
    go_wp2_with fail
    refine (alive_any w).mono ?_
    rintro e w1 ⟨rfl, hb1⟩
    have HB1 := Lib.hid hb1
    have HR1 := Lib.hid (hr'.out.below hb1)
    clear hb1
    go_wp2_with fail
    refine (refSize_any _ _ l _ HR1.out hm).mono ?_
    rintro e w' ⟨rfl, rfl⟩
    by_cases hok : D.Ok l ∧ 0 ≤ i ∧ i < D.prod l
    · obtain ⟨ho, h0, h1⟩ := hok
      have hs := ho.size
      have hp := ho.2.2
      have ht := ho.turn i
      have hb := ho.back h0 h1
      have HT := Lib.hid (Turn_yes A c l i w1 HR1.out ho h0 h1)
      have HT2 : Hid (∀ (A' : Option Addr) (c' : Nat) (W : World), RI .i64 W A' l.reverse → Calls Try.prog 10 #[.slice A' l.length c', .int .i64 (D.turnD l i)] W fun e w' => e = .returned (.tuple #[.int .i64 i, .bool true]) ∧ W = w') := Lib.hid fun A' c' W h => by
        have h2 := Turn_yes A' c' l.reverse (D.turnD l i) W h ho.reverse ht.1 (by rw [D.prod_reverse]; exact ht.2)
        rw [hb, List.length_reverse] at h2
        exact h2
      rw [hs]
      clear hb hs ho
      generalize D.turnD l i = y at *
      generalize D.prod l = n at *
      go_wp2_with fail
      refine HT.out.mono ?_
      rintro e w' ⟨rfl, rfl⟩
      go_wp2_with fail
      refine (Back_any A c l w1 HR1.out (by omega)).mono ?_
      rintro e w2 ⟨v, rfl, ho2, hb2⟩
      obtain ⟨A2, c2, rfl, hr2⟩ := ho2.form
      rw [List.length_reverse]
      have HB2 := Lib.hid hb2
      have HR2 := Lib.hid hr2
      clear hb2 hr2 ho2
      go_wp2_with fail
      refine (HT2.out A2 c2 w2 HR2.out).mono ?_
      rintro e w' ⟨rfl, rfl⟩
      go_wp2_with fail
      go_ret
      exact ⟨rfl, below_then HB1.out HB1.out.size HB2.out⟩
    · have HT := Lib.hid (Turn_no A c l i w1 HR1.out hm hok)
      rcases D.sizeD_cases l with ⟨ho, h⟩ | ⟨ho, h⟩ | ⟨ho, h⟩
      · rw [h]
        have hq : i < 0 ∨ D.prod l ≤ i := by
          rcases Int.lt_or_le i 0 with h3 | h3
          · exact .inl h3
          · rcases Int.lt_or_le i (D.prod l) with h4 | h4
            · exact absurd ⟨ho, h3, h4⟩ hok
            · exact .inr h4
        clear h hok ho
        generalize D.prod l = n at *
        by_cases hi : i < 0
        · go_wp2_with fail
          refine HT.out.mono ?_
          rintro e w' ⟨rfl, rfl⟩
          go_wp2_with fail
          go_ret
          exact ⟨rfl, HB1.out⟩
        · have hi2 : n ≤ i := by omega
          clear hq
          go_wp2_with fail
          refine HT.out.mono ?_
          rintro e w' ⟨rfl, rfl⟩
          go_wp2_with fail
          go_ret
          exact ⟨rfl, HB1.out⟩
      all_goals
        rw [h]
        clear h hok ho
        go_wp2_with fail
        refine HT.out.mono ?_
        rintro e w' ⟨rfl, rfl⟩
        go_wp2_with fail
        go_ret
        exact ⟨rfl, HB1.out⟩
end Go.Proofs.Ytmofdjddjkjogaa
