/- The walk of chapter 8's Slice. No condition. -/
import Derived.Test.YtdaajncfhcpecaaVSlMath
namespace Go.Proofs.Ytdaajncfhcpecaa
set_option linter.unusedVariables false
set_option linter.unusedSimpArgs false
open Go.RowKit
theorem Slice_no (o : Int) (A B : Option Addr) (cp cq : Nat) (l s : List Int) (k fr step count : Int) (w : World) (hr : RI .i64 w A l) (hs : RI .i64 w B s) (hm : l.length ≤ 9223372036854775807) (hms : s.length ≤ 9223372036854775807) (x : Int)
    (hx : (if V.check o l s 4096 ≠ 0 then V.check o l s 4096 else if k < 0 ∨ (l.length : Int) ≤ k then 10 else 0) = x) (hx0 : x ≠ 0) :
    Calls Try.prog 41 #[.agg (view o A l.length cp B s.length cq), .int .i64 k, .int .i64 fr, .int .i64 step, .int .i64 count] w fun e w' => e = .returned (.tuple #[.agg noView, .int .i64 x]) ∧ Below w.heap.size w w' := by
  have Z2 := Blk.new w 49 (view o A l.length cp B s.length cq)
  have Z4 := Blk.new (w.alloc (.cells (view o A l.length cp B s.length cq) 49)) 49 noView
  rw [World.size_alloc] at Z4
  have HB := Lib.hid (show Below w.heap.size w ((w.alloc (.cells (view o A l.length cp B s.length cq) 49)).alloc (.cells noView 49)) from ((Below.refl _ _).alloc (Nat.le_refl _) _).alloc (by simp) _)
  have HK2 := Lib.hid (Z2.alloc (.cells noView 49))
  have HK4 := Lib.hid Z4
  clear Z2 Z4
  have CX := Lib.hid (axis_any o A B cp cq l s k _ (hr.below HB.out) (hs.below HB.out) hm hms)
  rw [hx] at CX
  have hb : (x != 0) = true := by simp [hx0]
  have hb2 : (x == 0) = false := by simp [hx0]
  clear hr hs hm hms hx hx0
  go_enter Try.func41, Try.ntmps41
  go_wp2_with fail
  with_reducible refine CX.out.mono ?_
  rintro e w1 ⟨rfl, hb1⟩
  have HB1 := Lib.hid (below_then HB.out HB.out.size hb1)
  have HJ4 := Lib.hid (HK4.out.below hb1 (by simp))
  clear hb1 CX
  have k0 := HJ4.out.cell 0
  have k1 := HJ4.out.cell 1
  have k2 := HJ4.out.cell 2
  have f0 := HJ4.out.frozen 0
  have f1 := HJ4.out.frozen 1
  have f2 := HJ4.out.frozen 2
  have HKE := Lib.hid (((HJ4.out.set_ 0 (.int .i64 0)).set_ 1 (.slice none 0 0)).set_ 2 (.slice none 0 0))
  have d0 := HKE.out.cell 0
  have d1 := HKE.out.cell 1
  have d2 := HKE.out.cell 2
  go_wp2_with fail
  refine bodyPost_ret (v := .tuple #[.agg noView, .int .i64 x]) (by simp [results, Try.results41, go_sem, d0, d1, d2]) rfl ⟨rfl, ?_⟩
  exact ((HB1.out.setCell (p := ⟨w.heap.size + 1, 0, none⟩) (by simp) _).setCell (p := ⟨w.heap.size + 1, 1, none⟩) (by simp) _).setCell (p := ⟨w.heap.size + 1, 2, none⟩) (by simp) _
set_option maxHeartbeats 1000000 in
theorem Slice_bad (o : Int) (A B : Option Addr) (cp cq : Nat) (l s : List Int) (k : Nat) (fr step count : Int) (w : World) (hr : RI .i64 w A l) (hs : RI .i64 w B s) (hq : V.check o l s 4096 = 0) (hk : k < l.length) (hng : ¬ slGood (l.getD k 0) fr step count) :
    Calls Try.prog 41 #[.agg (view o A l.length cp B s.length cq), .int .i64 k, .int .i64 fr, .int .i64 step, .int .i64 count] w fun e w' => e = .returned (.tuple #[.agg noView, .int .i64 6]) ∧ Below w.heap.size w w' := by
  obtain ⟨hls, hok, _⟩ := V.check_zero hq
  have h4 := hok.1
  have hp := V.get_le_prod l k hok.2.1
  have hp1 := hok.2.1 _ (S.getD_mem hk)
  have hle := hok.2.2
  have Z2 := Blk.new w 49 (view o A l.length cp B s.length cq)
  have Z4 := Blk.new (w.alloc (.cells (view o A l.length cp B s.length cq) 49)) 49 noView
  rw [World.size_alloc] at Z4
  have HB := Lib.hid (show Below w.heap.size w ((w.alloc (.cells (view o A l.length cp B s.length cq) 49)).alloc (.cells noView 49)) from ((Below.refl _ _).alloc (Nat.le_refl _) _).alloc (by simp) _)
  have HK2 := Lib.hid (Z2.alloc (.cells noView 49))
  have HK4 := Lib.hid Z4
  clear Z2 Z4
  have CX := Lib.hid (axis_any o A B cp cq l s k _ (hr.below HB.out) (hs.below HB.out) (by omega) (by omega))
  rw [hq, if_neg (by simp), if_neg (by omega)] at CX
  have HR := Lib.hid fun U (h : Below w.heap.size w U) => hr.below h
  clear hr hs hq hls
  have h1n : l.getD k 0 ≤ 4096 := by omega
  have HNG := Lib.hid hng
  clear hng hok hp hle
  go_enter Try.func41, Try.ntmps41
  go_wp2_with fail
  with_reducible refine CX.out.mono ?_
  rintro e w1 ⟨rfl, hb1⟩
  have HB1 := Lib.hid (below_then HB.out HB.out.size hb1)
  have HJ2 := Lib.hid (HK2.out.below hb1 (by simp; omega))
  have HJ4 := Lib.hid (HK4.out.below hb1 (by simp))
  clear hb1 CX
  obtain ⟨ad, hA, hel⟩ := (HR.out w1 HB1.out).at_ hk
  subst hA
  have j1 := HJ2.out.cell 1
  have k0 := HJ4.out.cell 0
  have k1 := HJ4.out.cell 1
  have k2 := HJ4.out.cell 2
  have f0 := HJ4.out.frozen 0
  have f1 := HJ4.out.frozen 1
  have f2 := HJ4.out.frozen 2
  have HKE := Lib.hid (((HJ4.out.set_ 0 (.int .i64 0)).set_ 1 (.slice none 0 0)).set_ 2 (.slice none 0 0))
  have d0 := HKE.out.cell 0
  have d1 := HKE.out.cell 1
  have d2 := HKE.out.cell 2
  have hi0 : (0 : Int) ≤ (k : Int) := by omega
  have hi1 : (k : Int) < (l.length : Int) := by omega
  have HEND := Lib.hid (((HB1.out.setCell (p := ⟨w.heap.size + 1, 0, none⟩) (by simp) (.int .i64 0)).setCell (p := ⟨w.heap.size + 1, 1, none⟩) (by simp) (.slice none 0 0)).setCell (p := ⟨w.heap.size + 1, 2, none⟩) (by simp) (.slice none 0 0))
  generalize l.getD k 0 = n at *
  by_cases c1 : count < 1
  · have e1 := decide_eq_true c1
    clear c1
    go_wp2_with fail
    exact bodyPost_ret (v := .tuple #[.agg noView, .int .i64 6]) (by simp [results, Try.results41, go_sem, d0, d1, d2]) rfl ⟨rfl, HEND.out⟩
  have e1 := decide_eq_false c1
  by_cases c2 : n < count
  · have e2 := decide_eq_true c2
    clear c1 c2
    go_wp2_with fail
    exact bodyPost_ret (v := .tuple #[.agg noView, .int .i64 6]) (by simp [results, Try.results41, go_sem, d0, d1, d2]) rfl ⟨rfl, HEND.out⟩
  have e2 := decide_eq_false c2
  by_cases c3 : fr < 0
  · have e3 := decide_eq_true c3
    clear c1 c2 c3
    go_wp2_with fail
    exact bodyPost_ret (v := .tuple #[.agg noView, .int .i64 6]) (by simp [results, Try.results41, go_sem, d0, d1, d2]) rfl ⟨rfl, HEND.out⟩
  have e3 := decide_eq_false c3
  by_cases c4 : n ≤ fr
  · have e4 := decide_eq_true c4
    clear c1 c2 c3 c4
    go_wp2_with fail
    exact bodyPost_ret (v := .tuple #[.agg noView, .int .i64 6]) (by simp [results, Try.results41, go_sem, d0, d1, d2]) rfl ⟨rfl, HEND.out⟩
  have e4 := decide_eq_false c4
  have c5 : count ≠ 1 := fun h => HNG.out (by
    subst h
    refine ⟨by omega, by omega, by omega, by omega, ?_, ?_, ?_, ?_, ?_⟩ <;> unfold slT <;> simp <;> omega)
  have e5 : (count == 1) = false := by simp [c5]
  have m1 : -9223372036854775808 ≤ -n := by omega
  have m2 : -n ≤ 9223372036854775807 := by omega
  by_cases c6 : step = 0
  · subst c6
    clear c1 c2 c3 c4 c5
    go_wp2_with fail
    exact bodyPost_ret (v := .tuple #[.agg noView, .int .i64 6]) (by simp [results, Try.results41, go_sem, d0, d1, d2]) rfl ⟨rfl, HEND.out⟩
  have e6 : (step == 0) = false := by simp [c6]
  by_cases c7 : step ≤ -n
  · have e7 := decide_eq_true c7
    clear c1 c2 c3 c4 c5 c6 c7
    go_wp2_with fail
    exact bodyPost_ret (v := .tuple #[.agg noView, .int .i64 6]) (by simp [results, Try.results41, go_sem, d0, d1, d2]) rfl ⟨rfl, HEND.out⟩
  have e7 := decide_eq_false c7
  have e9 : decide (1 < n) = true := by simp; omega
  by_cases c8 : n ≤ step
  · have e8 := decide_eq_true c8
    clear c1 c2 c3 c4 c5 c6 c7 c8
    go_wp2_with fail
    exact bodyPost_ret (v := .tuple #[.agg noView, .int .i64 6]) (by simp [results, Try.results41, go_sem, d0, d1, d2]) rfl ⟨rfl, HEND.out⟩
  have e8 := decide_eq_false c8
  have m3 : -9223372036854775808 ≤ count - 1 := by omega
  have m4 : count - 1 ≤ 9223372036854775807 := by omega
  have hmul := V.mul_bound (x := count - 1) (y := step) (X := 4096) (Y := 4096) (by omega) (by omega) (by omega) (by omega) (by omega)
  have m5 : -9223372036854775808 ≤ (count - 1) * step := by omega
  have m6 : (count - 1) * step ≤ 9223372036854775807 := by omega
  have m7 : -9223372036854775808 ≤ fr + (count - 1) * step := by omega
  have m8 : fr + (count - 1) * step ≤ 9223372036854775807 := by omega
  by_cases c9 : fr + (count - 1) * step < 0
  · have e10 := decide_eq_true c9
    clear c1 c2 c3 c4 c5 c6 c7 c8 c9 hmul
    go_wp2_with fail
    exact bodyPost_ret (v := .tuple #[.agg noView, .int .i64 6]) (by simp [results, Try.results41, go_sem, d0, d1, d2]) rfl ⟨rfl, HEND.out⟩
  have e10 := decide_eq_false c9
  by_cases c10 : n ≤ fr + (count - 1) * step
  · have e11 := decide_eq_true c10
    clear c1 c2 c3 c4 c5 c6 c7 c8 c9 c10 hmul
    go_wp2_with fail
    exact bodyPost_ret (v := .tuple #[.agg noView, .int .i64 6]) (by simp [results, Try.results41, go_sem, d0, d1, d2]) rfl ⟨rfl, HEND.out⟩
  · refine absurd ?_ HNG.out
    have ht : slT step count = step := by unfold slT; rw [if_neg c5]
    unfold slGood
    rw [ht]
    exact ⟨by omega, by omega, by omega, by omega, c6, by omega, fun _ => by omega, by omega, by omega⟩
set_option maxHeartbeats 4000000 in
theorem Slice_yes (o : Int) (A B : Option Addr) (cp cq : Nat) (l s : List Int) (k : Nat) (fr step count : Int) (w : World) (hr : RI .i64 w A l) (hs : RI .i64 w B s) (hnA : A = none → l.length = 0 ∧ cp = 0) (hnB : B = none → s.length = 0 ∧ cq = 0) (hq : V.check o l s 4096 = 0) (hk : k < l.length)
    (hw : -9223372036854775808 ≤ s.getD k 0 ∧ s.getD k 0 ≤ 9223372036854775807) (hg : slGood (l.getD k 0) fr step count) :
    Calls Try.prog 41 #[.agg (view o A l.length cp B s.length cq), .int .i64 k, .int .i64 fr, .int .i64 step, .int .i64 count] w fun e w' => ∃ A1 c1 A2 c2, e = .returned (.tuple #[.agg (view (slO o l s k fr) A1 l.length c1 A2 s.length c2), .int .i64 0]) ∧
      OI .i64 3 w' w.heap.size (.slice A1 l.length c1) (l.set k count) ∧ OI .i64 3 w' w.heap.size (.slice A2 s.length c2) (slS s k step count) ∧ Below w.heap.size w w' := by
  obtain ⟨hls, hok, _⟩ := V.check_zero hq
  have h4 := hok.1
  have hks : k < s.length := by omega
  have hp1 := hok.2.1 _ (S.getD_mem hk)
  obtain ⟨b1, b2, b3, b4, b5, b6, b7, b8, b9, b10, b11⟩ := V.slBound hq hk hg
  obtain ⟨g1, g2, g3, g4, g5, g6, g7, g8, g9⟩ := hg
  have Z2 := Blk.new w 49 (view o A l.length cp B s.length cq)
  have Z4 := Blk.new (w.alloc (.cells (view o A l.length cp B s.length cq) 49)) 49 noView
  rw [World.size_alloc] at Z4
  have HB := Lib.hid (show Below w.heap.size w ((w.alloc (.cells (view o A l.length cp B s.length cq) 49)).alloc (.cells noView 49)) from ((Below.refl _ _).alloc (Nat.le_refl _) _).alloc (by simp) _)
  have HK2 := Lib.hid (Z2.alloc (.cells noView 49))
  have HK4 := Lib.hid Z4
  clear Z2 Z4
  have CX := Lib.hid (axis_any o A B cp cq l s k _ (hr.below HB.out) (hs.below HB.out) (by omega) (by omega))
  rw [hq, if_neg (by simp), if_neg (by omega)] at CX
  have HR := Lib.hid fun U (h : Below w.heap.size w U) => (And.intro (hr.below h) (hs.below h))
  have CA := Lib.hid fun U (h : Below w.heap.size w U) => Clone_any A cp l U (hr.below h) (by omega) hnA
  have CB := Lib.hid fun U (h : Below w.heap.size w U) => Clone_any B cq s U (hs.below h) (by omega) hnB
  have CJ0 := Lib.hid fun U (h : Below w.heap.size w U) => jump_any o A B cp cq l s k U (hr.below h) (hs.below h) hk hks
  rw [show (if l.getD k 0 = 1 then 0 else s.getD k 0) = jumpOf l s k from rfl] at CJ0
  clear hr hs hnA hnB
  have HLS := Lib.hid hls
  have HO := Lib.hid (show o + fr * jumpOf l s k = slO o l s k fr from rfl)
  have HS := Lib.hid (show s.set k (s.getD k 0 * slT step count) = slS s k step count from rfl)
  have HT1 := Lib.hid (show count = 1 → 1 = slT step count from fun h => by unfold slT; rw [if_pos h])
  have HT2 := Lib.hid (show count ≠ 1 → step = slT step count from fun h => by unfold slT; rw [if_neg h])
  have v1 : -9223372036854775808 ≤ s.getD k 0 * slT step count ∧ s.getD k 0 * slT step count ≤ 9223372036854775807 := by
    by_cases h1 : 1 < l.getD k 0
    · have := (b10 h1).2; omega
    · obtain ⟨_, _, ht, _⟩ := b11 h1
      rw [ht, Int.mul_one]
      exact hw
  have hmul : -9223372036854775808 ≤ (count - 1) * slT step count ∧ (count - 1) * slT step count ≤ 9223372036854775807 := by omega
  clear hq hok hls hw b10 b11
  generalize slO o l s k fr = o' at *
  generalize slS s k step count = s' at *
  generalize slT step count = t at *
  generalize jumpOf l s k = j at *
  go_enter Try.func41, Try.ntmps41
  go_wp2_with fail
  with_reducible refine CX.out.mono ?_
  rintro e w1 ⟨rfl, hb1⟩
  have HB1 := Lib.hid (below_then HB.out HB.out.size hb1)
  have HJ2 := Lib.hid (HK2.out.below hb1 (by simp; omega))
  have HJ4 := Lib.hid (HK4.out.below hb1 (by simp))
  clear hb1 CX
  obtain ⟨ad, hA, hel⟩ := (HR.out w1 HB1.out).1.at_ hk
  subst hA
  have j1 := HJ2.out.cell 1
  have hi0 : (0 : Int) ≤ (k : Int) := by omega
  have hi1 : (k : Int) < (l.length : Int) := by omega
  have hi2 : (k : Int) < (s.length : Int) := by omega
  generalize hxx : l.getD k 0 = n at *
  have HXX := Lib.hid hxx
  have c1 : decide (count < 1) = false := by simp; omega
  have c2 : decide (n < count) = false := by simp; omega
  have c3 : decide (fr < 0) = false := by simp; omega
  have c4 : decide (n ≤ fr) = false := by simp; omega
  have m1 : -9223372036854775808 ≤ -n := by omega
  have m2 : -n ≤ 9223372036854775807 := by omega
  have c6 : (t == 0) = false := by simp [g5]
  have c7 : decide (t ≤ -n) = false := by simp; omega
  have c8 : 1 < n → decide (n ≤ t) = false := fun h => by have := g7 h; simp; omega
  have HC8 := Lib.hid c8
  have HN1 := Lib.hid (show ¬ 1 < n → t = n from fun h => by have hc : count = 1 := (by omega); have := HT1.out hc; omega)
  have m3 : -9223372036854775808 ≤ count - 1 := by omega
  have m4 : count - 1 ≤ 9223372036854775807 := by omega
  have m5 : -9223372036854775808 ≤ (count - 1) * t := hmul.1
  have m6 : (count - 1) * t ≤ 9223372036854775807 := hmul.2
  have m7 : -9223372036854775808 ≤ fr + (count - 1) * t := by omega
  have m8 : fr + (count - 1) * t ≤ 9223372036854775807 := by omega
  have c10 : decide (fr + (count - 1) * t < 0) = false := by simp; omega
  have c11 : decide (n ≤ fr + (count - 1) * t) = false := by simp; omega
  have n1 : -9223372036854775808 ≤ fr * j := by omega
  have n2 : fr * j ≤ 9223372036854775807 := by omega
  have n3 : -9223372036854775808 ≤ o + fr * j := by omega
  have n4 : o + fr * j ≤ 9223372036854775807 := by omega
  clear hxx c8 g1 g2 g3 g4 g5 g6 g7 g8 g9 b1 b2 b3 b4 b5 b6 b7 b8 b9 hmul hp1
  go_upto_if 46 with fail
  go_cut [3] from 45 to 46 (fun c3 wx => c3 = .int .i64 t ∧ w1 = wx)
  case first =>
    by_cases h1 : count = 1
    · have ht := HT1.out h1
      have e5 : (count == 1) = true := by simp [h1]
      clear h1
      go_wp2_with fail
      go_meet
      exact ⟨by rw [← ht], rfl⟩
    · have ht := HT2.out h1
      have e5 : (count == 1) = false := by simp [h1]
      have HTT := Lib.hid ht
      clear h1 ht
      go_wp2_with fail
      go_meet
      exact ⟨by rw [← HTT.out], rfl⟩
  case rest =>
    obtain ⟨rfl, rfl⟩ := hcut
    go_upto_region 9 with fail
    go_cut [63] from 47 to 63 (fun c63 wx => c63 = .bool false ∧ w1 = wx)
    case first =>
      by_cases h1 : 1 < n
      · have c8 := HC8.out h1
        have c9 := decide_eq_true h1
        clear h1
        go_wp2_with fail
        go_meet
        exact ⟨rfl, rfl⟩
      · have c8 : decide (n ≤ t) = true := by have := HN1.out (by omega); simp; omega
        have c9 := decide_eq_false h1
        clear h1
        go_wp2_with fail
        go_meet
        exact ⟨rfl, rfl⟩
    case rest =>
    obtain ⟨rfl, rfl⟩ := hcut
    clear c1 c2 c3 c4 c6 c7 m1 m2 HC8 HN1
    have CA' := Lib.hid fun X (h : Below w1.heap.size w1 X) => (CA.out X (below_then HB1.out HB1.out.size h)).mono (R' := fun e U => ∃ A1 c1, e = .returned (.slice A1 l.length c1) ∧ OI .i64 3 U X.heap.size (.slice A1 l.length c1) l ∧ Below X.heap.size X U ∧ Below w1.heap.size w1 U) (by
      rintro e U ⟨v, rfl, ho, hb⟩
      obtain ⟨A1, c1, rfl, _⟩ := ho.form
      exact ⟨A1, c1, rfl, ho, hb, below_then h h.size hb⟩)
    have CB' := Lib.hid fun X (h : Below w1.heap.size w1 X) => (CB.out X (below_then HB1.out HB1.out.size h)).mono (R' := fun e U => ∃ A1 c1, e = .returned (.slice A1 s.length c1) ∧ OI .i64 3 U X.heap.size (.slice A1 s.length c1) s ∧ Below X.heap.size X U ∧ Below w1.heap.size w1 U) (by
      rintro e U ⟨v, rfl, ho, hb⟩
      obtain ⟨A1, c1, rfl, _⟩ := ho.form
      exact ⟨A1, c1, rfl, ho, hb, below_then h h.size hb⟩)
    have CJ := Lib.hid fun X (h : Below w1.heap.size w1 X) => CJ0.out X (below_then HB1.out HB1.out.size h)
    have HDW := Lib.hid (show Below w1.heap.size w1 w1.drew from ⟨rfl, rfl, rfl, Nat.le_refl _, fun _ _ => rfl⟩)
    have HWR : IntKind.i64.wrap (o + IntKind.i64.wrap (fr * j)) = o' := by
      have e1 : IntKind.i64.wrap (fr * j) = fr * j := by rw [IntKind.wrap_i64]; omega
      have e2 : IntKind.i64.wrap (o + fr * j) = o + fr * j := by rw [IntKind.wrap_i64]; omega
      rw [e1, e2, HO.out]
    have HW' := Lib.hid HWR
    clear CA CB CJ0 HWR
    have j0 := HJ2.out.cell 0
    have j2 := HJ2.out.cell 2
    go_upto_region 14 with fail
    go_cut [15] from 79 to 93 (fun c15 wx => ∃ b A1 c1 A2 c2, c15 = .pointer (some ⟨b, 0, none⟩) ∧ Hid (Three wx w1.heap.size b (.int .i64 o') A1 l.length c1 l A2 s.length c2 s) ∧ Hid (Below w1.heap.size w1 wx))
    case first =>
      go_region_held3 (fun w' => w'.cell? ⟨w.heap.size, 0, none⟩ = some (.int .i64 o) ∧ w'.cell? ⟨w.heap.size, 1, none⟩ = some (.slice (some ad) l.length cp) ∧ w'.cell? ⟨w.heap.size, 2, none⟩ = some (.slice B s.length cq) ) (first | exact hS | go_keep | exact (((Blk.far hKU.out (p := ⟨_, 0, none⟩) hne _).far (p := ⟨_, 1, none⟩) hne _).far (p := ⟨_, 2, none⟩) hne _).view_cells | exact ((((hKU.out.alloc _).far (p := ⟨_, 0, none⟩) hne _).far (p := ⟨_, 1, none⟩) hne _).far (p := ⟨_, 2, none⟩) hne _).view_cells)
        (first
        | (go_at_call 46; have hpast := HZ1; clear hpast; refine (CB'.out U1 HD1.out).mono ?_; rintro e U2 ⟨A2, c2, rfl, ho2, hb2, hd2⟩; have HZ2 := Lib.hid (HZ1.out.below hb2 HZ1.out.lt); have z20 := HZ2.out.cell 0; have y20 := HZ2.out.frozen 0; have z21 := HZ2.out.cell 1; have y21 := HZ2.out.frozen 1; have z22 := HZ2.out.cell 2; have y22 := HZ2.out.frozen 2; have HD2 := Lib.hid hd2; have HP2 := Lib.hid ho2; have HBB2 := Lib.hid hb2; have hKU := Lib.hid (HJ2.out.below hd2 HJ2.out.lt); have hS := hKU.out.view_cells; have hne := Nat.ne_of_lt (Nat.lt_of_lt_of_le HJ2.out.lt hbz); clear ho2 hb2 hd2)
        | (go_at_call 46; refine (CB'.out (U1.alloc (.cells noView 49)) (HD1.out.alloc HD1.out.size _)).mono ?_; rintro e U2 ⟨A2, c2, rfl, ho2, hb2, hd2⟩; have HZ2 := Lib.hid (show Blk U2 U1.heap.size 49 noView from (Blk.new U1 49 noView).below hb2 (by simp)); have hbz : w1.heap.size ≤ U1.heap.size := HD1.out.size; have z20 := HZ2.out.cell 0; have y20 := HZ2.out.frozen 0; have z21 := HZ2.out.cell 1; have y21 := HZ2.out.frozen 1; have z22 := HZ2.out.cell 2; have y22 := HZ2.out.frozen 2; have HD2 := Lib.hid hd2; have HP2 := Lib.hid ho2; have HBB2 := Lib.hid hb2; have hKU := Lib.hid (HJ2.out.below hd2 HJ2.out.lt); have hS := hKU.out.view_cells; have hne := Nat.ne_of_lt (Nat.lt_of_lt_of_le HJ2.out.lt hbz); clear ho2 hb2 hd2)
        | (go_at_call 46; have hpast := HD1; clear hpast; refine (CB'.out U1 HD1.out).mono ?_; rintro e U2 ⟨A2, c2, rfl, ho2, hb2, hd2⟩; have hbz : w1.heap.size ≤ U2.heap.size := hd2.size; have HD2 := Lib.hid hd2; have HP2 := Lib.hid ho2; have HBB2 := Lib.hid hb2; have hKU := Lib.hid (HJ2.out.below hd2 HJ2.out.lt); have hS := hKU.out.view_cells; have hne := Nat.ne_of_lt (Nat.lt_of_lt_of_le HJ2.out.lt hbz); clear ho2 hb2 hd2)
        | (go_at_call 46; have hpast := HZ0; clear hpast; refine (CA'.out U0 HD0.out).mono ?_; rintro e U1 ⟨A1, c1, rfl, ho1, hb1, hd1⟩; have HZ1 := Lib.hid (HZ0.out.below hb1 HZ0.out.lt); have HD1 := Lib.hid hd1; have HP1 := Lib.hid ho1; have HBB1 := Lib.hid hb1; have HM1 := Lib.hid (HJ2.out.below hd1 HJ2.out.lt); have hS := HM1.out.view_cells; clear ho1 hb1 hd1)
        | (go_at_call 46; refine (CA'.out (U0.alloc (.cells noView 49)) (HD0.out.alloc HD0.out.size _)).mono ?_; rintro e U1 ⟨A1, c1, rfl, ho1, hb1, hd1⟩; have HZ1 := Lib.hid (show Blk U1 U0.heap.size 49 noView from (Blk.new U0 49 noView).below hb1 (by simp)); have hbz : w1.heap.size ≤ U0.heap.size := HD0.out.size; have HD1 := Lib.hid hd1; have HP1 := Lib.hid ho1; have HBB1 := Lib.hid hb1; have HM1 := Lib.hid (HJ2.out.below hd1 HJ2.out.lt); have hS := HM1.out.view_cells; clear ho1 hb1 hd1)
        | (go_at_call 46; refine (CA'.out U0 HD0.out).mono ?_; rintro e U1 ⟨A1, c1, rfl, ho1, hb1, hd1⟩; have HD1 := Lib.hid hd1; have HP1 := Lib.hid ho1; have HBB1 := Lib.hid hb1; have HM1 := Lib.hid (HJ2.out.below hd1 HJ2.out.lt); have hS := HM1.out.view_cells; clear ho1 hb1 hd1)
        | (go_at_call 52; refine (CJ.out (w1.drew.alloc (.cells noView 49)) (HDW.out.alloc (Nat.le_refl _) _)).mono ?_; rintro e U0 ⟨rfl, hb0⟩; have hX := HDW.out.alloc (Nat.le_refl _) (.cells noView 49); have HZ0 := Lib.hid (show Blk U0 w1.heap.size 49 noView from (Blk.new w1.drew 49 noView).below hb0 (by simp)); have hbz : w1.heap.size ≤ w1.heap.size := Nat.le_refl _; have HD0 := Lib.hid (below_then hX hX.size hb0); have hS := (HJ2.out.below HD0.out HJ2.out.lt).view_cells; clear hb0 hX)
        | (go_at_call 52; refine (CJ.out w1.drew HDW.out).mono ?_; rintro e U0 ⟨rfl, hb0⟩; have hX := HDW.out; have HD0 := Lib.hid (below_then hX hX.size hb0); have hS := (HJ2.out.below HD0.out HJ2.out.lt).view_cells; clear hb0 hX))
      all_goals go_wp2_with fail
      all_goals go_meet
      all_goals rw [HW'.out]
      · refine ⟨_, A1, c1, A2, c2, rfl, Lib.hid ⟨Blk.new U2 49 _, ((HP1.out.below HBB2.out).alloc _).mono HD0.out.size, (HP2.out.alloc _).mono HD1.out.size, HD2.out.size, fun g hg => ?_, fun g hg => ?_, fun g hg hg2 => ?_⟩, Lib.hid (HD2.out.alloc HD2.out.size _)⟩
        · have := (HP1.out.lt g hg).2; have := HBB2.out.size; omega
        · have := (HP2.out.lt g hg).2; omega
        · have := (HP1.out.lt g hg).2; have := (HP2.out.lt g hg2).1; omega
      · refine ⟨_, A1, c1, A2, c2, rfl, Lib.hid (Three.made HZ2.out HD1.out.size (((HP1.out.alloc _).below HBB2.out).mono HD0.out.size) (HP2.out.mono (by have := HD1.out.size; simp; omega)) (fun g hg => ?_) (fun g hg => ?_) (fun g hg hg2 => ?_)), Lib.hid (((HD2.out.setCell (p := ⟨U1.heap.size, 0, none⟩) HD1.out.size _).setCell (p := ⟨U1.heap.size, 1, none⟩) HD1.out.size _).setCell (p := ⟨U1.heap.size, 2, none⟩) HD1.out.size _)⟩
        · have := (HP1.out.lt g hg).2; omega
        · have := (HP2.out.lt g hg).1; simp at this; omega
        · have := (HP1.out.lt g hg).2; have := (HP2.out.lt g hg2).1; simp at this; omega
      · refine ⟨_, A1, c1, A2, c2, rfl, Lib.hid (Three.made HZ2.out HD0.out.size ((HP1.out.below HBB2.out).mono (by have := HD0.out.size; simp; omega)) (HP2.out.mono HD1.out.size) (fun g hg => ?_) (fun g hg => ?_) (fun g hg hg2 => ?_)), Lib.hid (((HD2.out.setCell (p := ⟨U0.heap.size, 0, none⟩) HD0.out.size _).setCell (p := ⟨U0.heap.size, 1, none⟩) HD0.out.size _).setCell (p := ⟨U0.heap.size, 2, none⟩) HD0.out.size _)⟩
        · have := (HP1.out.lt g hg).1; simp at this; omega
        · have := (HP2.out.lt g hg).1; have := HZ1.out.lt; omega
        · have := (HP1.out.lt g hg).2; have := (HP2.out.lt g hg2).1; omega
      · refine ⟨_, A1, c1, A2, c2, rfl, Lib.hid (Three.made HZ2.out (Nat.le_refl _) ((HP1.out.below HBB2.out).mono HD0.out.size) (HP2.out.mono HD1.out.size) (fun g hg => ?_) (fun g hg => ?_) (fun g hg hg2 => ?_)), Lib.hid (((HD2.out.setCell (p := ⟨w1.heap.size, 0, none⟩) (Nat.le_refl _) _).setCell (p := ⟨w1.heap.size, 1, none⟩) (Nat.le_refl _) _).setCell (p := ⟨w1.heap.size, 2, none⟩) (Nat.le_refl _) _)⟩
        · have := (HP1.out.lt g hg).1; have := HZ0.out.lt; omega
        · have := (HP2.out.lt g hg).1; have := HZ0.out.lt; have := HBB1.out.size; omega
        · have := (HP1.out.lt g hg).2; have := (HP2.out.lt g hg2).1; omega
    case rest =>
    obtain ⟨b, A1, c1, A2, c2, rfl, HTT, HDC⟩ := hcut
    clear j0 j1 j2 CA' CB' CJ HDW
    obtain ⟨HTb, ho1, ho2, hBb, hn1, hn2, hap⟩ := HTT.out
    obtain ⟨g1, rfl⟩ := ho1.some hk
    obtain ⟨g2, rfl⟩ := ho2.some hks
    have hlt4 := HJ4.out.lt
    have hlt2 := HJ2.out.lt
    have hg1 : g1 ≠ b := hn1 g1 rfl
    have hg2 : g2 ≠ b := hn2 g2 rfl
    have hg12 : g1 ≠ g2 := fun e => hap g1 rfl (by rw [e]; rfl)
    have hb1 := ho1.base
    have hb2 := ho2.base
    have HC4 := Lib.hid (HJ4.out.below HDC.out HJ4.out.lt)
    have HCB := Lib.hid (below_then HB1.out HB1.out.size HDC.out)
    have b1 := HTb.cell 1
    have p1 := ho1.cellAt hk
    have p1f := ho1.frozenAt rfl k
    have HK1 := Lib.hid HTb
    have HOO1 := Lib.hid ho1
    have HOO2 := Lib.hid ho2
    clear HTb ho1 ho2 hn1 hn2 hap hel
    go_upto_region 16 with fail
    generalize hW7 : wc.setCell ⟨g1, k, none⟩ (.int .i64 count) = W7
    have HK7 := Lib.hid (show Blk W7 b 49 _ from by rw [← hW7]; exact HK1.out.far (p := ⟨g1, k, none⟩) hg1.symm _)
    have HR7 := Lib.hid (show Blk W7 (w.heap.size + 1) 49 _ from by rw [← hW7]; exact HC4.out.far (p := ⟨g1, k, none⟩) (show w.heap.size + 1 ≠ g1 by omega) _)
    have P1 := Lib.hid (show OI .i64 3 W7 w1.heap.size (.slice (some ⟨g1, 0, none⟩) l.length c1) (l.set k count) from by rw [← hW7]; exact HOO1.out.stored rfl k _)
    have P2 := Lib.hid (show OI .i64 3 W7 w1.heap.size (.slice (some ⟨g2, 0, none⟩) s.length c2) s from by rw [← hW7]; exact keep_set HOO2.out fun g hg => by cases hg; exact hg12.symm)
    have HB7 := Lib.hid (show Below w.heap.size w W7 from by rw [← hW7]; exact HCB.out.setCell (p := ⟨g1, k, none⟩) (show w.heap.size ≤ g1 by omega) _)
    have b2 := HK7.out.cell 2
    have p2 := P2.out.cellAt hks
    have p2f := P2.out.frozenAt rfl k
    clear hW7 b1 p1 p1f
    generalize s.getD k 0 = y at *
    have y1 : -9223372036854775808 ≤ y * t := v1.1
    have y2 : y * t ≤ 9223372036854775807 := v1.2
    clear v1
    go_upto_region 17 with fail
    generalize hW8 : W7.setCell ⟨g2, k, none⟩ (.int .i64 (y * t)) = W8
    have HK8 := Lib.hid (show Blk W8 b 49 _ from by rw [← hW8]; exact HK7.out.far (p := ⟨g2, k, none⟩) hg2.symm _)
    have HR8 := Lib.hid (show Blk W8 (w.heap.size + 1) 49 _ from by rw [← hW8]; exact HR7.out.far (p := ⟨g2, k, none⟩) (show w.heap.size + 1 ≠ g2 by omega) _)
    have R1 := Lib.hid (show OI .i64 3 W8 w1.heap.size (.slice (some ⟨g1, 0, none⟩) l.length c1) (l.set k count) from by rw [← hW8]; exact keep_set P1.out fun g hg => by cases hg; exact hg12)
    have R2 := Lib.hid (show OI .i64 3 W8 w1.heap.size (.slice (some ⟨g2, 0, none⟩) s.length c2) s' from by rw [← hW8, ← HS.out]; exact P2.out.stored rfl k _)
    have HB8 := Lib.hid (show Below w.heap.size w W8 from by rw [← hW8]; exact HB7.out.setCell (p := ⟨g2, k, none⟩) (show w.heap.size ≤ g2 by omega) _)
    clear hW8 HK7 HR7 P1 P2 b2 p2 p2f y1 y2
    have b0 := HK8.out.cell 0
    have b1 := HK8.out.cell 1
    have b2 := HK8.out.cell 2
    have k0 := HR8.out.cell 0
    have k1 := HR8.out.cell 1
    have k2 := HR8.out.cell 2
    have f0 := HR8.out.frozen 0
    have f1 := HR8.out.frozen 1
    have f2 := HR8.out.frozen 2
    have HKE := Lib.hid (((HR8.out.set_ 0 (.int .i64 o')).set_ 1 (.slice (some ⟨g1, 0, none⟩) l.length c1)).set_ 2 (.slice (some ⟨g2, 0, none⟩) s.length c2))
    have d0 := HKE.out.cell 0
    have d1 := HKE.out.cell 1
    have d2 := HKE.out.cell 2
    go_wp2_with fail
    refine bodyPost_ret (v := .tuple #[.agg (view o' (some ⟨g1, 0, none⟩) l.length c1 (some ⟨g2, 0, none⟩) s.length c2), .int .i64 0]) (by simp [results, Try.results41, go_sem, d0, d1, d2]) rfl ⟨_, c1, _, c2, rfl, ?_, ?_, ?_⟩
    · exact (keep_set (keep_set (keep_set R1.out (fun g hg => by have := (R1.out.lt g hg).1; omega)) (fun g hg => by have := (R1.out.lt g hg).1; omega)) (fun g hg => by have := (R1.out.lt g hg).1; omega)).mono (by omega)
    · exact (keep_set (keep_set (keep_set R2.out (fun g hg => by have := (R2.out.lt g hg).1; omega)) (fun g hg => by have := (R2.out.lt g hg).1; omega)) (fun g hg => by have := (R2.out.lt g hg).1; omega)).mono (by omega)
    · exact ((HB8.out.setCell (p := ⟨w.heap.size + 1, 0, none⟩) (by simp) _).setCell (p := ⟨w.heap.size + 1, 1, none⟩) (by simp) _).setCell (p := ⟨w.heap.size + 1, 2, none⟩) (by simp) _
end Go.Proofs.Ytdaajncfhcpecaa
