/- The walk of the law DigitsSwap. No condition. -/
import Derived.Test.YtmofdjddjkjogaaSwSwap
namespace Go.Proofs.Ytmofdjddjkjogaa
set_option linter.unusedVariables false
set_option linter.unusedSimpArgs false
open Go Go.RowKit Go.Shelf
namespace Sw
set_option maxHeartbeats 2000000 in
theorem swap_law (A A2 : Option Addr) (c c2 : Nat) (xs t : List Int) (w : World) (hr : RI .u64 w A xs) (hr2 : RI .i64 w A2 t) (hc : A = none → c = 0) (hmx : xs.length ≤ 9223372036854775807) (hm : t.length ≤ 9223372036854775807) :
    Calls Try.prog 7 #[.slice A xs.length c, .slice A2 t.length c2] w fun e w' => e = .returned (.bool true) ∧ Below w.heap.size w w' := by
  have HR := Lib.hid fun U (h : Below w.heap.size w U) => And.intro (hr.below h) (hr2.below h)
  have HC := Lib.hid hc
  clear hr hr2 hc
  by_cases h1 : (300 : Int) < (xs.length : Int)
  · have e1 := decide_eq_true h1
    clear h1
    go_enter Try.func7, Try.ntmps7
    go_wp2_with fail
    with_reducible refine (alive_any w).mono ?_
    rintro e w1 ⟨rfl, hb1⟩
    go_wp2_with fail
    go_ret
    exact ⟨rfl, hb1⟩
  have e1 := decide_eq_false h1
  by_cases h2 : (300 : Int) < (t.length : Int)
  · have e2 := decide_eq_true h2
    clear h1 h2
    go_enter Try.func7, Try.ntmps7
    go_wp2_with fail
    with_reducible refine (alive_any w).mono ?_
    rintro e w1 ⟨rfl, hb1⟩
    go_wp2_with fail
    go_ret
    exact ⟨rfl, hb1⟩
  have e2 := decide_eq_false h2
  have hx3 : xs.length ≤ 300 := by omega
  have ht3 : t.length ≤ 300 := by omega
  clear h1 h2
  go_enter Try.func7, Try.ntmps7
  go_wp2_with fail
  with_reducible refine (alive_any w).mono ?_
  rintro e w1 ⟨rfl, hb1⟩
  have HB1 := Lib.hid hb1
  clear hb1
  have HBA := Lib.hid ((Below.refl w1.heap.size w1).alloc (Nat.le_refl _) (.cells #[] 41))
  have hsz : w.heap.size ≤ w1.heap.size + 1 := by have := HB1.out.size; omega
  have HBB := Lib.hid (HB1.out.alloc HB1.out.size (.cells #[] 41))
  go_wp2_with (at_builtin; refine wpList_appendRI rfl (.tmp 19) (.tmp 20) 37 rfl w.heap.size 41 .u64 8 Try.underlying37 infoU64 (by decide) (.slice (some ⟨w1.heap.size, 0, none⟩) 0 0) [] xs A c rfl rfl (OI.empty _ _ _ _ HB1.out.size) (HR.out _ HBB.out).1 HC.out (by simp; omega) (by simpa using hsz) ?_; intro v2 w2 ho2 hb2; rw [List.nil_append] at ho2; have HO2 := Lib.hid ho2; have HB2 := Lib.hid (HBB.out.trans hb2); clear ho2 hb2)
  obtain ⟨A3, c3, rfl, hr3⟩ := HO2.out.form
  have HR3 := Lib.hid hr3
  clear hr3 HBA HBB
  by_cases hok : xs.length = t.length ∧ good t
  · obtain ⟨hl, hg⟩ := hok
    have CS := Lib.hid (Swap_yes A3 A2 c3 c2 w.heap.size xs t w2 HO2.out HB2.out.size (fun U hU => (HR.out U (HB2.out.trans hU)).2) (by omega) hl hg)
    have CO := Lib.hid fun U (h : Below w.heap.size w U) => Once_any A2 c2 t U (HR.out U h).2 (by omega)
    rw [goodB_yes hg] at CO
    have HG := Lib.hid hg
    have HL := Lib.hid hl
    have hd : ((xs.length : Int) != (t.length : Int)) = false := by simp [hl]
    have hd2 : ((xs.length : Int) == (t.length : Int)) = true := by simp [hl]
    clear hg hl
    go_wp2_with fail
    with_reducible refine CS.out.mono ?_
    rintro e w3 ⟨L, rfl, ho3, hlL, hval, hb3⟩
    have HB3 := Lib.hid (HB2.out.trans hb3)
    have HV := Lib.hid hval
    have HLL := Lib.hid hlL
    have hro := ho3.form
    obtain ⟨_, _, he3, hr3⟩ := hro
    injection he3 with he3 he3b he3c
    subst he3
    have HR4 := Lib.hid hr3
    clear hval hlL hb3 ho3 hr3 he3b he3c CS HR3 HO2
    go_wp2_with fail
    with_reducible refine (CO.out w3 HB3.out).mono ?_
    rintro e w' ⟨rfl, rfl⟩
    go_wp2_with fail
    go_loopw [44] (fun n wr => ∃ i : Nat, i ≤ t.length ∧ n = .int .i64 i ∧ Hid (Below w.heap.size w wr) ∧ Hid (RI .u64 wr A3 L)) (fun n _ => t.length - (intOf n).toNat)
    case atStart => exact ⟨0, by omega, rfl, HB3, HR4⟩
    case round =>
      obtain ⟨i, hi, rfl, HBr, HRr⟩ := hrel
      by_cases hlt : i < t.length
      · have hsg := HG.out.sg_lt hlt
        have hsx : sg t i < xs.length := by have := HL.out; omega
        obtain ⟨td, hT, htc⟩ := (HR.out _ HBr.out).2.at_ hlt
        obtain ⟨xd, hX, hxc⟩ := (HR.out _ HBr.out).1.at_ hsx
        obtain ⟨ld, hLd, hlc⟩ := HRr.out.at_ (i := i) (by rw [HLL.out]; exact hlt)
        rw [HV.out i hlt] at hlc
        rw [hsg.2] at htc
        subst hT hX hLd
        have hi0 : (0 : Int) ≤ (i : Int) := by omega
        have hi1 : (i : Int) < (t.length : Int) := by omega
        have hi2 : (i : Int) < (xs.length : Int) := by have := HL.out; omega
        have hk0 : (0 : Int) ≤ (sg t i : Int) := by omega
        have hk1 : (sg t i : Int) < (xs.length : Int) := by omega
        clear hsg hsx
        generalize xs.getD (sg t i) 0 = y at *
        generalize sg t i = q at *
        go_wp2_with fail
        go_quiet (fail)
        go_wp2_with fail
        go_roundw
        case rel => exact ⟨i + 1, by omega, by go_num, Lib.hid ⟨HBr.out.os, HBr.out.tape, HBr.out.output, HBr.out.size, HBr.out.block⟩, Lib.hid (HRr.out.drewN _)⟩
        case measure => simp [intOf]; omega
      · go_wp2_with fail
        go_ret
        exact ⟨rfl, HBr.out⟩
  · have CS := Lib.hid (Swap_no A3 A2 c3 c2 xs.length t w2 (HR.out _ HB2.out).2 (by omega) (by by_cases h : xs.length = t.length; exact .inr fun h2 => hok ⟨h, h2⟩; exact .inl h))
    have CO := Lib.hid fun U (h : Below w.heap.size w U) => Once_any A2 c2 t U (HR.out U h).2 (by omega)
    have CE := Lib.hid fun U (h1 : RI .u64 U A3 xs) (h2 : RI .u64 U A xs) => same_yes A3 A c3 c xs U h1 h2 hmx
    go_wp2_with fail
    with_reducible refine CS.out.mono ?_
    rintro e w3 ⟨rfl, hb3⟩
    have HB3 := Lib.hid (below_then HB2.out HB2.out.size hb3)
    have HR4 := Lib.hid (HR3.out.below hb3)
    clear hb3 CS HR3
    by_cases hl : xs.length = t.length
    · have hng : ¬ good t := fun h => hok ⟨hl, h⟩
      rw [goodB_no hng] at CO
      have hd : ((xs.length : Int) != (t.length : Int)) = false := by simp [hl]
      have hd2 : ((xs.length : Int) == (t.length : Int)) = true := by simp [hl]
      clear hl hng hok
      go_wp2_with fail
      with_reducible refine (CO.out w3 HB3.out).mono ?_
      rintro e w' ⟨rfl, rfl⟩
      go_wp2_with fail
      with_reducible refine (CE.out w3 HR4.out (HR.out _ HB3.out).1).mono ?_
      rintro e w4 ⟨rfl, hd4⟩
      go_wp2_with fail
      go_ret
      exact ⟨rfl, HB3.out.trans (hd4.below _)⟩
    · have hd : ((xs.length : Int) != (t.length : Int)) = true := by simp; omega
      have hd2 : ((xs.length : Int) == (t.length : Int)) = false := by simp; omega
      clear hl hok
      go_wp2_with fail
      with_reducible refine (CE.out w3 HR4.out (HR.out _ HB3.out).1).mono ?_
      rintro e w4 ⟨rfl, hd4⟩
      go_wp2_with fail
      go_ret
      exact ⟨rfl, HB3.out.trans (hd4.below _)⟩
end Sw
end Go.Proofs.Ytmofdjddjkjogaa
