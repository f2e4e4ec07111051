/- The walks of chapter 9's functions: Table, the reference's Digits and Turn. No condition. -/
import Derived.Test.YtmofdjddjkjogaaBackWalk
import Derived.Test.YtmofdjddjkjogaaDMath2
namespace Go.Proofs.Ytmofdjddjkjogaa
set_option linter.unusedVariables false
set_option linter.unusedSimpArgs false
open Go.RowKit
set_option maxHeartbeats 400000 in
theorem Digits_any (A : Option Addr) (c : Nat) (l : List Int) (i : Int) (w : World) (hr : RI .i64 w A l) (hl : l.length ≤ 100) (h2 : ∀ r ∈ l, 2 ≤ r) (h0 : 0 ≤ i) (h1 : i ≤ 9223372036854775807) :
    Calls Try.prog 23 #[.slice A l.length c, .int .i64 i] w fun e w' => ∃ v, e = .returned v ∧ OI .i64 3 w' w.heap.size v (D.digs i l) ∧ Below w.heap.size w w' := by
  have hr' := Lib.hid hr
  have h2' := Lib.hid h2
  clear hr h2
  go_enter Try.func23, Try.ntmps23
  go_wp2
  go_loopw [1, 5, 10] (fun n v j wr => ∃ (k : Nat) (x : Int), k ≤ l.length ∧ j = .int .i64 k ∧ n = .int .i64 x ∧ 0 ≤ x ∧ x ≤ 9223372036854775807 ∧ Hid ((D.digs i l).drop k = D.digs x (l.drop k)) ∧ Hid (OI .i64 3 wr w.heap.size v ((D.digs i l).take k)) ∧ Hid (Below w.heap.size w wr)) (fun _ _ j _ => l.length - (intOf j).toNat)
  case atStart => exact ⟨0, i, by omega, rfl, rfl, h0, h1, Lib.hid rfl, Lib.hid (OI.nil _ _ _ _), Lib.hid (Below.refl _ _)⟩
  case round =>
    obtain ⟨k, x, hk, rfl, rfl, hx0, hx1, HD, HO, HB⟩ := hrel
    by_cases hlt : k < l.length
    · obtain ⟨ad, rfl, hc⟩ := (hr'.out.below HB.out).at_ hlt
      have hS := drop_at l hlt
      have hr2 : 2 ≤ l.getD k 0 := h2'.out _ (by rw [List.getD_eq_getElem?_getD, List.getElem?_eq_getElem hlt]; exact List.getElem_mem hlt)
      generalize l.getD k 0 = r at hc hS hr2
      have hD := HD.out
      rw [hS, D.digs] at hD
      have HT := Lib.hid (D.take_snoc' hD)
      have HD2 := Lib.hid (show (D.digs i l).drop (k + 1) = D.digs (x / r) (l.drop (k + 1)) by
        have : (D.digs i l).drop (k + 1) = ((D.digs i l).drop k).drop 1 := by rw [List.drop_drop]
        rw [this, hD]; rfl)
      clear hS hD
      have HL := Lib.hid (show ((D.digs i l).take k).length + 1 ≤ 17592186044416 by rw [List.length_take]; omega)
      have hBs := HB.out.size
      have hm0 := Int.emod_nonneg x (show r ≠ 0 by omega)
      have hm1 := Int.emod_lt_of_pos x (show 0 < r by omega)
      have hd0 : 0 ≤ x / r := Int.ediv_nonneg hx0 (by omega)
      have hd1 : x / r ≤ x := Int.ediv_le_self _ hx0
      have hr1 : 1 ≤ r := by omega
      go_wp2_with (at_builtin; refine wpList_append1 (W := wr) rfl (.tmp 14) (.tmp 18) 22 rfl w.heap.size 3 .i64 8 Try.underlying22 infoInt (by decide) u5 ((D.digs i l).take k) (x % r) rfl rfl HO.out HL.out hBs ?_; intro v1 w1 hown hb1; have HO1 := Lib.hid hown; have HB1 := Lib.hid hb1; clear hown hb1)
      go_roundw
      case rel => exact ⟨k + 1, x / r, by omega, by go_num, by go_num, hd0, by omega, HD2, Lib.hid (by rw [HT.out]; exact HO1.out), Lib.hid (HB.out.trans HB1.out)⟩
      case measure => simp [intOf]; omega
    · have HE := Lib.hid (show (D.digs i l).take k = D.digs i l from List.take_of_length_le (by rw [D.digs_length]; omega))
      go_wp2
      go_ret
      exact ⟨_, rfl, by rw [← HE.out]; exact HO.out, HB.out⟩

set_option maxHeartbeats 400000 in
theorem refTurn_any (A : Option Addr) (c : Nat) (l : List Int) (i : Int) (w : World) (hr : RI .i64 w A l) (hok : D.Ok l) (h0 : 0 ≤ i) (h1 : i ≤ 9223372036854775807) :
    Calls Try.prog 16 #[.slice A l.length c, .int .i64 i] w fun e w' => e = .returned (.int .i64 (D.turnD l i)) ∧ Below w.heap.size w w' := by
  have hl := hok.1
  have hr' := Lib.hid hr
  have HK := Lib.hid hok
  have C1 := Lib.hid (Digits_any A c l i w hr (by omega) hok.2.1 h0 h1)
  clear hr hok
  go_enter Try.func16, Try.ntmps16
  go_wp2_with fail
  refine C1.out.mono ?_
  rintro e w1 ⟨v, rfl, ho, hb⟩
  obtain ⟨A2, c2, rfl, hr2⟩ := ho.form
  rw [D.digs_length]
  have HB := Lib.hid hb
  have HR1 := Lib.hid (hr'.out.below hb)
  have HR2 := Lib.hid hr2
  have HP := Lib.hid (D.digs_pos l i HK.out.2.1)
  have HLD := Lib.hid (D.digs_length l i)
  have HSB := Lib.hid fun j => D.sumD_bound l i j HK.out.2.1
  have HPL := Lib.hid fun j => D.prod_drop_le l j HK.out.2.1
  have HPP := Lib.hid fun j => D.prod_pos (l.drop j) fun r hr => HK.out.2.1 r (List.mem_of_mem_drop hr)
  have HE := Lib.hid (show D.sumD (D.digs i l) l = D.turnD l i from D.sumD_digs l i)
  have h4 := HK.out.2.2
  clear hb hr2 ho
  generalize D.digs i l = d at *
  go_wp2
  go_loop [6, 7, 8] (fun a b k => ∃ j : Nat, j ≤ l.length ∧ k = .int .i64 ((j : Int) - 1) ∧ a = .int .i64 (D.sumD (d.drop j) (l.drop j)) ∧ b = .int .i64 (D.prod (l.drop j))) (fun _ _ k => (intOf k + 1).toNat)
  case atStart => exact ⟨l.length, by omega, rfl, by rw [List.drop_length]; cases d.drop l.length <;> rfl, by rw [List.drop_length]; rfl⟩
  case round =>
    obtain ⟨j, hj, rfl, rfl, rfl⟩ := hrel
    by_cases hlt : 1 ≤ j
    · obtain ⟨k, rfl⟩ : ∃ k, j = k + 1 := ⟨j - 1, by omega⟩
      obtain ⟨ad, rfl, hc⟩ := HR1.out.at_ (show k < l.length by omega)
      obtain ⟨ad2, rfl, hc2⟩ := HR2.out.at_ (show k < d.length by have := HLD.out; omega)
      have hS := drop_at l (show k < l.length by omega)
      have hS2 := drop_at d (show k < d.length by have := HLD.out; omega)
      have hd0 : 0 ≤ d.getD k 0 := HP.out _ (by have := HLD.out; rw [List.getD_eq_getElem?_getD, List.getElem?_eq_getElem (show k < d.length by omega)]; exact List.getElem_mem _)
      have hr2 : 2 ≤ l.getD k 0 := HK.out.2.1 _ (by rw [List.getD_eq_getElem?_getD, List.getElem?_eq_getElem (show k < l.length by omega)]; exact List.getElem_mem _)
      generalize l.getD k 0 = r at *
      generalize d.getD k 0 = x at *
      have e1 : D.sumD (d.drop k) (l.drop k) = x * D.prod (l.drop (k + 1)) + D.sumD (d.drop (k + 1)) (l.drop (k + 1)) := by rw [hS, hS2]; rfl
      have e2 : D.prod (l.drop k) = r * D.prod (l.drop (k + 1)) := by rw [hS]; rfl
      have b1 := (HSB.out k).2
      have b2 := HSB.out (k + 1)
      have b3 := HPL.out k
      have b4 := HPP.out (k + 1)
      have b5 := HPL.out (k + 1)
      have b6 : 0 ≤ D.prod (l.drop (k + 1)) * x := Int.mul_nonneg (by omega) hd0
      rw [e1, Int.mul_comm] at b1
      have b7 : 0 ≤ D.prod (l.drop (k + 1)) * r := Int.mul_nonneg (by omega) (by omega)
      have b8 : D.prod (l.drop (k + 1)) * r ≤ 4096 := by rw [e2, Int.mul_comm] at b3; omega
      have E1 := Lib.hid (show D.sumD (d.drop (k + 1)) (l.drop (k + 1)) + D.prod (l.drop (k + 1)) * x = D.sumD (d.drop k) (l.drop k) by rw [e1, Int.mul_comm x]; omega)
      have E2 := Lib.hid (show D.prod (l.drop (k + 1)) * r = D.prod (l.drop k) by rw [e2, Int.mul_comm])
      have b9 : D.prod (l.drop (k + 1)) * x ≤ 4096 := by rw [e2, Int.mul_comm r] at b1; omega
      clear e1 e2 b1 b3 hS hS2
      generalize D.sumD (d.drop (k + 1)) (l.drop (k + 1)) = s at *
      generalize D.prod (l.drop (k + 1)) = p at *
      go_wp2
      go_round
      case rel => exact ⟨k, by omega, by go_num, by rw [← E1.out], by rw [← E2.out]⟩
      case measure => simp [intOf]
    · obtain rfl : j = 0 := by omega
      have HF := Lib.hid (show D.sumD (d.drop 0) (l.drop 0) = D.turnD l i from HE.out)
      go_wp2
      go_ret
      exact ⟨ret_int HF.out, HB.out⟩

set_option maxHeartbeats 400000 in
theorem Table_yes (A : Option Addr) (c : Nat) (l : List Int) (n : Nat) (w : World) (hr : RI .i64 w A l) (hok : D.Ok l) (hn : D.prod l = n) :
    Calls Try.prog 15 #[.slice A l.length c] w fun e w' => ∃ v, e = .returned v ∧ OI .i64 3 w' w.heap.size v ((List.range n).map fun i : Nat => D.turnD l i) ∧ Below w.heap.size w w' := by
  have hl := hok.1
  have hp := hok.2.2
  have C1 := Lib.hid (size_any A c l w hr (by omega))
  rw [hok.size, hn] at C1
  rw [hn] at hp
  have hr' := Lib.hid hr
  have HT := Lib.hid fun (k : Nat) (W : World) (h : RI .i64 W A l) (hk : k < n) => turn_any A c l k W h hok (by omega) (by omega)
  clear hr hok hn
  have HF := Lib.hid (show (List.range n).map (fun i : Nat => D.turnD l i) = D.tab (fun i : Nat => D.turnD l i) n n from (D.tab_full _ _).symm)
  rw [HF.out]
  go_enter Try.func15, Try.ntmps15
  go_wp2_with fail
  refine C1.out.mono ?_
  rintro e w' ⟨rfl, rfl⟩
  go_wp2_with (refine wpList_makeI rfl (.tmp 14) (.tmp 14) 22 rfl w.heap.size 3 .i64 8 Try.underlying22 infoInt (by decide) .i64 .i64 n rfl rfl (by omega) (Nat.le_refl _) ?_; intro w1 ho1 hb1 hs1; have HO1 := Lib.hid ho1; have HB1 := Lib.hid hb1; clear ho1 hb1)
  go_loopw [18] (fun j wr => ∃ k : Nat, k ≤ n ∧ j = .int .i64 k ∧ Hid (OI .i64 3 wr w.heap.size (.slice (some ⟨w.heap.size, 0, none⟩) n n) (D.tab (fun i : Nat => D.turnD l i) n k)) ∧ Hid (Below w.heap.size w wr)) (fun j _ => n - (intOf j).toNat)
  case atStart => exact ⟨0, by omega, rfl, Lib.hid (by rw [D.tab_zero]; exact HO1.out), HB1⟩
  case round =>
    obtain ⟨k, hk, rfl, HO, HB⟩ := hrel
    by_cases hlt : k < n
    · have hlen := D.tab_length (fun i : Nat => D.turnD l i) n k
      have HL := Lib.hid hlen
      have hc := (show OI .i64 3 wr w.heap.size (.slice (some ⟨w.heap.size, 0, none⟩) (D.tab (fun i : Nat => D.turnD l i) n k).length n) (D.tab (fun i : Nat => D.turnD l i) n k) by rw [hlen]; exact HO.out).cellAt (show k < _ by rw [hlen]; exact hlt)
      have hf := HO.out.frozenAt hlen.symm k
      have HN := Lib.hid (show OI .i64 3 (wr.setCell ⟨w.heap.size, k, none⟩ (.int .i64 (D.turnD l k))) w.heap.size (.slice (some ⟨w.heap.size, 0, none⟩) n n) (D.tab (fun i : Nat => D.turnD l i) n (k + 1)) by
        have := HO.out.stored hlen.symm k (D.turnD l k)
        rw [D.tab_set (fun i : Nat => D.turnD l i) n k] at this
        exact this)
      clear hlen
      generalize D.tab (fun i : Nat => D.turnD l i) n k = t at *
      have C2 := Lib.hid (HT.out k wr (hr'.out.below HB.out) hlt)
      generalize (t.getD k 0) = y at *
      generalize D.turnD l k = z at *
      go_wp2_with fail
      refine C2.out.mono ?_
      rintro e w' ⟨rfl, rfl⟩
      go_wp2_with fail
      go_roundw
      case rel => exact ⟨k + 1, by omega, by go_num, HN, Lib.hid (HB.out.setCell (by simp) _)⟩
      case measure => simp [intOf]; omega
    · obtain rfl : k = n := by omega
      go_wp2
      go_ret
      exact ⟨_, rfl, HO.out, HB.out⟩
end Go.Proofs.Ytmofdjddjkjogaa
