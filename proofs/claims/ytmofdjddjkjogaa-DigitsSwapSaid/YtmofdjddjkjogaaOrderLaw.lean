/- The walk of the law DigitsOrder, out of contracts. No condition. -/
import Derived.Test.YtmofdjddjkjogaaOrderWalk
namespace Go.Proofs.Ytmofdjddjkjogaa
set_option linter.unusedVariables false
set_option linter.unusedSimpArgs false
open Go.RowKit
theorem OI.empty (k : IntKind) (e : TypeId) (w : World) (B : Nat) (hB : B ≤ w.heap.size) : OI k e (w.alloc (.cells #[] e)) B (.slice (some ⟨w.heap.size, 0, none⟩) 0 0) [] :=
  World.ownsRow_lit w #[] 0 hB (by simp) (by simp)
set_option maxHeartbeats 1000000 in
theorem order_law (A A2 : Option Addr) (c c2 : Nat) (xs l : List Int) (w : World) (hr : RI .u64 w A xs) (hr2 : RI .i64 w A2 l) (hc : A = none → c = 0) (hmx : xs.length ≤ 9223372036854775807) (hm : l.length ≤ 9223372036854775807) :
    Calls Try.prog 6 #[.slice A xs.length c, .slice A2 l.length c2] w fun e w' => e = .returned (.bool true) ∧ Below w.heap.size w w' := by
  have hr' := Lib.hid hr
  have hr2' := Lib.hid hr2
  have HC := Lib.hid hc
  clear hr hr2 hc
  by_cases h100 : 100 < l.length
  · go_enter Try.func6, Try.ntmps6
    go_wp2_with fail
    with_reducible refine (alive_any w).mono ?_
    rintro e w1 ⟨rfl, hb1⟩
    go_wp2_with fail
    go_ret
    exact ⟨rfl, hb1⟩
  by_cases h5000 : 5000 < xs.length
  · go_enter Try.func6, Try.ntmps6
    go_wp2_with fail
    with_reducible refine (alive_any w).mono ?_
    rintro e w1 ⟨rfl, hb1⟩
    go_wp2_with fail
    go_ret
    exact ⟨rfl, hb1⟩
  have C2 := Lib.hid fun (W : World) (h : RI .i64 W A2 l) => refSize_any A2 c2 l W h hm
  go_enter Try.func6, Try.ntmps6
  go_wp2_with fail
  with_reducible refine (alive_any w).mono ?_
  rintro e w1 ⟨rfl, hb1⟩
  have HB1 := Lib.hid hb1
  have HR1 := Lib.hid (hr'.out.below hb1)
  have HQ1 := Lib.hid (hr2'.out.below hb1)
  clear hb1
  have HBA := Lib.hid ((Below.refl w1.heap.size w1).alloc (Nat.le_refl _) (.cells #[] 41))
  have hsz : w.heap.size ≤ w1.heap.size + 1 := by have := HB1.out.size; omega
  go_wp2_with (at_builtin; refine wpList_appendRI rfl (.tmp 24) (.tmp 25) 37 rfl w.heap.size 41 .u64 8 Try.underlying37 infoU64 (by decide) (.slice (some ⟨w1.heap.size, 0, none⟩) 0 0) [] xs A c rfl rfl (OI.empty _ _ _ _ HB1.out.size) (HR1.out.below HBA.out) HC.out (by simp; omega) (by simpa using hsz) ?_; intro v2 w2 ho2 hb2; rw [List.nil_append] at ho2; have HO2 := Lib.hid ho2; have HB2 := Lib.hid ((HB1.out.alloc HB1.out.size _).trans hb2); clear ho2 hb2)
  obtain ⟨A3, c3, rfl, hr3⟩ := HO2.out.form
  have HR3 := Lib.hid hr3
  clear hr3
  have HR2 := Lib.hid (hr'.out.below HB2.out)
  have HQ2 := Lib.hid (hr2'.out.below HB2.out)
  clear HO2 HBA HR1 HQ1
  by_cases hok : D.Ok l
  · obtain ⟨n, hn⟩ : ∃ n : Nat, D.prod l = n := ⟨(D.prod l).toNat, by have := hok.pos; omega⟩
    have hp := hok.2.2
    have hl := hok.1
    rw [hn] at hp
    rw [hok.size, hn] at C2
    by_cases hx : xs.length = n
    · have C5 := Lib.hid fun (A A3 : Option Addr) (c c3 : Nat) (W : World) (h : RI .u64 W A xs) (h2 : RI .i64 W A3 l) => Order_yes A A3 c c3 xs l n W h h2 hok hn hx
      have C6 := Lib.hid fun (k : Nat) (W : World) (h : RI .i64 W A2 l) (hk : k < n) => refTurn_any A2 c2 l k W h hok (by omega) (by omega)
      have C7 := Lib.hid fun (W : World) (h : RI .i64 W A2 l) => Back_any A2 c2 l W h (by omega)
      have C8 := Lib.hid fun (t : List Int) (A A3 : Option Addr) (c c3 : Nat) (W : World) (h : RI .u64 W A t) (h2 : RI .i64 W A3 l.reverse) (ht : t.length = n) => Order_yes A A3 c c3 t l.reverse n W h h2 hok.reverse (by rw [D.prod_reverse]; exact hn) ht
      have HTB := Lib.hid fun (k : Nat) (hk : k < n) => (show 0 ≤ D.turnD l k ∧ D.turnD l k < n by have := hok.turn k; rw [hn] at this; exact this)
      have HBK := Lib.hid fun (k : Nat) (hk : k < n) => hok.back (i := k) (by omega) (by rw [hn]; omega)
      have HX := Lib.hid hx
      have hxn : xs.length ≤ n := by omega
      have hnx : n ≤ xs.length := by omega
      clear hok hn hx
      go_wp2_with fail
      rw [HX.out]
      with_reducible refine (C5.out A3 A2 c3 c2 w2 HR3.out HQ2.out).mono ?_
      rintro e w3 ⟨v3, t, rfl, ho3, htl, htv, hb3⟩
      obtain ⟨A4, c4, rfl, hr4⟩ := ho3.form
      rw [htl]
      have HB3 := Lib.hid (below_then HB2.out HB2.out.size hb3)
      have HR33 := Lib.hid (HR3.out.below hb3)
      have HR4 := Lib.hid hr4
      have HTL := Lib.hid htl
      have HTV := Lib.hid htv
      clear hr4 ho3 htl htv hb3
      have HR24 := Lib.hid (hr'.out.below HB3.out)
      have CS := Lib.hid (same_yes A3 A c3 c xs w3 HR33.out HR24.out hmx)
      rw [HX.out] at CS
      go_wp2_with fail
      with_reducible refine CS.out.mono ?_
      rintro e w4 ⟨rfl, nd, rfl⟩
      have HB4 := Lib.hid (show Below w.heap.size w (w3.drewN nd) from below_drewN HB3.out nd)
      have HR44 := Lib.hid (show RI .u64 (w3.drewN nd) A4 t from HR4.out)
      generalize w3.drewN nd = w5 at *
      clear HR33 HR24 HR4 HR2 HR3 CS HB3 HQ2
      go_wp2_with fail
      with_reducible refine (C2.out w5 (hr2'.out.below HB4.out)).mono ?_
      rintro e w' ⟨rfl, rfl⟩
      go_wp2_with fail
      go_loopw [70] (fun j wr => ∃ k : Nat, k ≤ n ∧ j = .int .i64 k ∧ Hid (Below w5.heap.size w5 wr)) (fun j _ => n - (intOf j).toNat)
      case atStart => exact ⟨0, by omega, rfl, Lib.hid (Below.refl _ _)⟩
      case round =>
        obtain ⟨k, hk, rfl, HB⟩ := hrel
        have HBR := Lib.hid (below_then HB4.out HB4.out.size HB.out)
        by_cases hlt : k < n
        · have htb := HTB.out k hlt
          have htv := HTV.out k hlt
          have C9 := Lib.hid (C6.out k wr (hr2'.out.below HBR.out) hlt)
          obtain ⟨ad, rfl, hcx⟩ := (hr'.out.below HBR.out).at_ (show k < xs.length by omega)
          obtain ⟨m, hm⟩ : ∃ m : Nat, D.turnD l k = m := ⟨(D.turnD l k).toNat, by omega⟩
          rw [hm] at C9 htb htv
          rw [Int.toNat_natCast] at htv
          have hmt : m < t.length := by have := HTL.out; omega
          have hmn : m < n := by omega
          generalize xs.getD k 0 = y at hcx htv
          have HTVY := Lib.hid htv
          clear htv hm
          go_wp2_with fail
          with_reducible refine C9.out.mono ?_
          rintro e w6 ⟨rfl, hb6⟩
          have HB6 := Lib.hid (below_then HB.out HB.out.size hb6)
          clear hb6
          obtain ⟨ad4, rfl, hc4⟩ := (HR44.out.below HB6.out).at_ hmt
          rw [HTVY.out] at hc4
          go_wp2_with fail
          exact ⟨⟨k + 1, by omega, by go_num, HB6⟩, by simp [intOf]; omega⟩
        · go_wp2_with fail
          with_reducible refine (C7.out wr (hr2'.out.below HBR.out)).mono ?_
          rintro e w6 ⟨v6, rfl, ho6, hb6⟩
          obtain ⟨A6, c6, rfl, hr6⟩ := ho6.form
          have HB6 := Lib.hid (below_then HB.out HB.out.size hb6)
          have C10 := Lib.hid (C8.out t A4 A6 c4 c6 w6 (HR44.out.below HB6.out) hr6 HTL.out)
          rw [List.length_reverse] at C10
          rw [List.length_reverse]
          clear hb6 ho6 hr6
          go_wp2_with fail
          with_reducible refine C10.out.mono ?_
          rintro e w7 ⟨v7, t2, rfl, ho7, ht2l, ht2v, hb7⟩
          have HE := Lib.hid (show t2 = xs by
            apply List.ext_getElem
            · rw [ht2l, HX.out]
            · intro i hi1 hi2
              have h1 := HTV.out i (by omega)
              have htb := HTB.out i (by omega)
              obtain ⟨m, hm⟩ : ∃ m : Nat, D.turnD l i = m := ⟨(D.turnD l i).toNat, by omega⟩
              have h2 := ht2v m (by omega)
              have h3 := HBK.out i (by omega)
              rw [hm] at h1 h3
              rw [h3, Int.toNat_natCast] at h2
              rw [Int.toNat_natCast] at h1
              rw [h1] at h2
              simpa [List.getD_eq_getElem?_getD, List.getElem?_eq_getElem hi1, List.getElem?_eq_getElem hi2] using h2)
          obtain ⟨A7, c7, rfl, hr7⟩ := ho7.form
          rw [HE.out] at hr7
          rw [HE.out, HX.out]
          have HB7 := Lib.hid (below_then (below_then HB4.out HB4.out.size HB6.out) (Nat.le_trans HB4.out.size HB6.out.size) hb7)
          have CS := Lib.hid (same_yes A7 A c7 c xs w7 hr7 (hr'.out.below HB7.out) hmx)
          rw [HX.out] at CS
          clear hr7 ho7 ht2l ht2v hb7
          go_wp2_with fail
          with_reducible refine CS.out.mono ?_
          rintro e w8 ⟨rfl, nd2, rfl⟩
          go_wp2_with fail
          go_ret
          exact ⟨rfl, below_drewN HB7.out nd2⟩
    · have C5 := Lib.hid (Order_len A3 A2 c3 c2 xs.length l w2 HQ2.out hok (by rw [hn]; omega) hmx)
      have hne : ((xs.length : Int) != (n : Int)) = true := by simp; omega
      have CS := Lib.hid (same_yes A3 A c3 c xs w2 HR3.out HR2.out hmx)
      clear hok hn hx
      go_wp2_with fail
      with_reducible refine C5.out.mono ?_
      rintro e w' ⟨rfl, rfl⟩
      go_wp2_with fail
      with_reducible refine CS.out.mono ?_
      rintro e w4 ⟨rfl, nd, rfl⟩
      have HB4 := Lib.hid (show Below w.heap.size w (w2.drewN nd) from below_drewN HB2.out nd)
      generalize w2.drewN nd = w5 at *
      clear CS C5 HR2 HR3 HB2 HQ2
      go_wp2_with fail
      with_reducible refine (C2.out w5 (hr2'.out.below HB4.out)).mono ?_
      rintro e w' ⟨rfl, rfl⟩
      go_wp2_with fail
      go_ret
      exact ⟨rfl, HB4.out⟩
  · have C5 := Lib.hid (Order_bad A3 A2 c3 c2 xs.length l w2 HQ2.out hm hok)
    have CS := Lib.hid (same_yes A3 A c3 c xs w2 HR3.out HR2.out hmx)
    rcases D.sizeD_cases l with ⟨ho, h⟩ | ⟨ho, h⟩ | ⟨ho, h⟩
    · exact absurd ho hok
    all_goals
      rw [h] at C2 C5
      clear hok h ho
      go_wp2_with fail
      with_reducible refine C5.out.mono ?_
      rintro e w' ⟨rfl, rfl⟩
      go_wp2_with fail
      with_reducible refine CS.out.mono ?_
      rintro e w4 ⟨rfl, nd, rfl⟩
      have HB4 := Lib.hid (show Below w.heap.size w (w2.drewN nd) from below_drewN HB2.out nd)
      generalize w2.drewN nd = w5 at *
      clear CS C5 HR2 HR3 HB2 HQ2
      go_wp2_with fail
      with_reducible refine (C2.out w5 (hr2'.out.below HB4.out)).mono ?_
      rintro e w' ⟨rfl, rfl⟩
      go_wp2_with fail
      go_ret
      exact ⟨rfl, HB4.out⟩
end Go.Proofs.Ytmofdjddjkjogaa
