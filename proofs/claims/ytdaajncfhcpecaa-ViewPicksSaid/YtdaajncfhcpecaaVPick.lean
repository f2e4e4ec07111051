/- The walk of chapter 8's Pick. No condition. -/
import Derived.Test.YtdaajncfhcpecaaVSlMath
import Derived.Test.YtdaajncfhcpecaaVDel
namespace Go.Proofs.Ytdaajncfhcpecaa
set_option linter.unusedVariables false
set_option linter.unusedSimpArgs false
open Go.RowKit
theorem Pick_no (o : Int) (A B : Option Addr) (cp cq : Nat) (l s : List Int) (k fr : Int) (w : World) (hr : RI .i64 w A l) (hs : RI .i64 w B s) (hm : l.length ≤ 9223372036854775807) (hms : s.length ≤ 9223372036854775807) (x : Int)
    (hx : (if V.check o l s 4096 ≠ 0 then V.check o l s 4096 else if k < 0 ∨ (l.length : Int) ≤ k then 10 else 0) = x) (hx0 : x ≠ 0) :
    Calls Try.prog 40 #[.agg (view o A l.length cp B s.length cq), .int .i64 k, .int .i64 fr] w fun e w' => e = .returned (.tuple #[.agg noView, .int .i64 x]) ∧ Below w.heap.size w w' := by
  have Z2 := Blk.new w 49 (view o A l.length cp B s.length cq)
  have Z4 := Blk.new (w.alloc (.cells (view o A l.length cp B s.length cq) 49)) 49 noView
  rw [World.size_alloc] at Z4
  have HB := Lib.hid (show Below w.heap.size w ((w.alloc (.cells (view o A l.length cp B s.length cq) 49)).alloc (.cells noView 49)) from ((Below.refl _ _).alloc (Nat.le_refl _) _).alloc (by simp) _)
  have HK2 := Lib.hid (Z2.alloc (.cells noView 49))
  have HK4 := Lib.hid Z4
  clear Z2 Z4
  have CX := Lib.hid (axis_any o A B cp cq l s k _ (hr.below HB.out) (hs.below HB.out) hm hms)
  rw [hx] at CX
  have hb : (x != 0) = true := by simp [hx0]
  have hb2 : (x == 0) = false := by simp [hx0]
  clear hr hs hm hms hx hx0
  go_enter Try.func40, Try.ntmps40
  go_wp2_with fail
  with_reducible refine CX.out.mono ?_
  rintro e w1 ⟨rfl, hb1⟩
  have HB1 := Lib.hid (below_then HB.out HB.out.size hb1)
  have HJ4 := Lib.hid (HK4.out.below hb1 (by simp))
  clear hb1 CX
  have k0 := HJ4.out.cell 0
  have k1 := HJ4.out.cell 1
  have k2 := HJ4.out.cell 2
  have f0 := HJ4.out.frozen 0
  have f1 := HJ4.out.frozen 1
  have f2 := HJ4.out.frozen 2
  have HKE := Lib.hid (((HJ4.out.set_ 0 (.int .i64 0)).set_ 1 (.slice none 0 0)).set_ 2 (.slice none 0 0))
  have d0 := HKE.out.cell 0
  have d1 := HKE.out.cell 1
  have d2 := HKE.out.cell 2
  go_wp2_with fail
  refine bodyPost_ret (v := .tuple #[.agg noView, .int .i64 x]) (by simp [results, Try.results40, go_sem, d0, d1, d2]) rfl ⟨rfl, ?_⟩
  exact ((HB1.out.setCell (p := ⟨w.heap.size + 1, 0, none⟩) (by simp) _).setCell (p := ⟨w.heap.size + 1, 1, none⟩) (by simp) _).setCell (p := ⟨w.heap.size + 1, 2, none⟩) (by simp) _
set_option maxHeartbeats 1000000 in
theorem Pick_bad (o : Int) (A B : Option Addr) (cp cq : Nat) (l s : List Int) (k : Nat) (fr : Int) (w : World) (hr : RI .i64 w A l) (hs : RI .i64 w B s) (hq : V.check o l s 4096 = 0) (hk : k < l.length) (hng : fr < 0 ∨ l.getD k 0 ≤ fr) :
    Calls Try.prog 40 #[.agg (view o A l.length cp B s.length cq), .int .i64 k, .int .i64 fr] w fun e w' => e = .returned (.tuple #[.agg noView, .int .i64 6]) ∧ Below w.heap.size w w' := by
  obtain ⟨hls, hok, _⟩ := V.check_zero hq
  have h4 := hok.1
  have hp := V.get_le_prod l k hok.2.1
  have hp1 := hok.2.1 _ (S.getD_mem hk)
  have hle := hok.2.2
  have Z2 := Blk.new w 49 (view o A l.length cp B s.length cq)
  have Z4 := Blk.new (w.alloc (.cells (view o A l.length cp B s.length cq) 49)) 49 noView
  rw [World.size_alloc] at Z4
  have HB := Lib.hid (show Below w.heap.size w ((w.alloc (.cells (view o A l.length cp B s.length cq) 49)).alloc (.cells noView 49)) from ((Below.refl _ _).alloc (Nat.le_refl _) _).alloc (by simp) _)
  have HK2 := Lib.hid (Z2.alloc (.cells noView 49))
  have HK4 := Lib.hid Z4
  clear Z2 Z4
  have CX := Lib.hid (axis_any o A B cp cq l s k _ (hr.below HB.out) (hs.below HB.out) (by omega) (by omega))
  rw [hq, if_neg (by simp), if_neg (by omega)] at CX
  have HR := Lib.hid fun U (h : Below w.heap.size w U) => hr.below h
  clear hr hs hq hls
  have h1n : l.getD k 0 ≤ 4096 := by omega
  have HNG := Lib.hid hng
  clear hng hok hp hle
  go_enter Try.func40, Try.ntmps40
  go_wp2_with fail
  with_reducible refine CX.out.mono ?_
  rintro e w1 ⟨rfl, hb1⟩
  have HB1 := Lib.hid (below_then HB.out HB.out.size hb1)
  have HJ2 := Lib.hid (HK2.out.below hb1 (by simp; omega))
  have HJ4 := Lib.hid (HK4.out.below hb1 (by simp))
  clear hb1 CX
  obtain ⟨ad, hA, hel⟩ := (HR.out w1 HB1.out).at_ hk
  subst hA
  have j1 := HJ2.out.cell 1
  have k0 := HJ4.out.cell 0
  have k1 := HJ4.out.cell 1
  have k2 := HJ4.out.cell 2
  have f0 := HJ4.out.frozen 0
  have f1 := HJ4.out.frozen 1
  have f2 := HJ4.out.frozen 2
  have HKE := Lib.hid (((HJ4.out.set_ 0 (.int .i64 0)).set_ 1 (.slice none 0 0)).set_ 2 (.slice none 0 0))
  have d0 := HKE.out.cell 0
  have d1 := HKE.out.cell 1
  have d2 := HKE.out.cell 2
  have hi0 : (0 : Int) ≤ (k : Int) := by omega
  have hi1 : (k : Int) < (l.length : Int) := by omega
  have HEND := Lib.hid (((HB1.out.setCell (p := ⟨w.heap.size + 1, 0, none⟩) (by simp) (.int .i64 0)).setCell (p := ⟨w.heap.size + 1, 1, none⟩) (by simp) (.slice none 0 0)).setCell (p := ⟨w.heap.size + 1, 2, none⟩) (by simp) (.slice none 0 0))
  generalize l.getD k 0 = n at *
  by_cases c1 : fr < 0
  · have e1 := decide_eq_true c1
    clear c1
    go_wp2_with fail
    exact bodyPost_ret (v := .tuple #[.agg noView, .int .i64 6]) (by simp [results, Try.results40, go_sem, d0, d1, d2]) rfl ⟨rfl, HEND.out⟩
  · have e1 := decide_eq_false c1
    have c2 : n ≤ fr := by have := HNG.out; omega
    have e2 := decide_eq_true c2
    clear c1 c2
    go_wp2_with fail
    exact bodyPost_ret (v := .tuple #[.agg noView, .int .i64 6]) (by simp [results, Try.results40, go_sem, d0, d1, d2]) rfl ⟨rfl, HEND.out⟩
theorem below_grown {n : Nat} {W U U' : World} {g : Nat} (h : Below n W U) (hn : n ≤ W.heap.size) (hg : U.grownBy U' (some g)) (hng : n ≤ g) : Below n W U' :=
  h.trans ⟨hg.os, hg.tape, hg.output, hg.size, fun i hi => hg.block i (Nat.lt_of_lt_of_le (Nat.lt_of_lt_of_le hi hn) h.size) (fun e => by injection e with e; omega)⟩
set_option maxRecDepth 100000 in
set_option maxHeartbeats 4000000 in
theorem Pick_yes (o : Int) (A B : Option Addr) (cp cq : Nat) (l s : List Int) (k : Nat) (fr : Int) (w : World) (hr : RI .i64 w A l) (hs : RI .i64 w B s) (hnA : A = none → l.length = 0 ∧ cp = 0) (hnB : B = none → s.length = 0 ∧ cq = 0) (hq : V.check o l s 4096 = 0) (hk : k < l.length)
    (hf0 : 0 ≤ fr) (hf1 : fr < l.getD k 0) :
    Calls Try.prog 40 #[.agg (view o A l.length cp B s.length cq), .int .i64 k, .int .i64 fr] w fun e w' => ∃ A1 c1 A2 c2, e = .returned (.tuple #[.agg (view (slO o l s k fr) A1 (l.length - 1) c1 A2 (s.length - 1) c2), .int .i64 0]) ∧
      OI .i64 3 w' w.heap.size (.slice A1 (l.length - 1) c1) (l.eraseIdx k) ∧ OI .i64 3 w' w.heap.size (.slice A2 (s.length - 1) c2) (s.eraseIdx k) ∧ Below w.heap.size w w' := by
  obtain ⟨hls, hok, _⟩ := V.check_zero hq
  have h4 := hok.1
  have hks : k < s.length := by omega
  have hp1 := hok.2.1 _ (S.getD_mem hk)
  have hg : slGood (l.getD k 0) fr 1 1 := by
    have hsl : slT 1 1 = 1 := rfl
    unfold slGood
    rw [hsl]
    exact ⟨by omega, by omega, by omega, by omega, by omega, by omega, by omega, by omega, by omega⟩
  obtain ⟨b1, b2, b3, b4, b5, b6, b7, b8, b9, _, _⟩ := V.slBound hq hk hg
  have Z2 := Blk.new w 49 (view o A l.length cp B s.length cq)
  have Z4 := Blk.new (w.alloc (.cells (view o A l.length cp B s.length cq) 49)) 49 noView
  rw [World.size_alloc] at Z4
  have HB := Lib.hid (show Below w.heap.size w ((w.alloc (.cells (view o A l.length cp B s.length cq) 49)).alloc (.cells noView 49)) from ((Below.refl _ _).alloc (Nat.le_refl _) _).alloc (by simp) _)
  have HK2 := Lib.hid (Z2.alloc (.cells noView 49))
  have HK4 := Lib.hid Z4
  clear Z2 Z4
  have CX := Lib.hid (axis_any o A B cp cq l s k _ (hr.below HB.out) (hs.below HB.out) (by omega) (by omega))
  rw [hq, if_neg (by simp), if_neg (by omega)] at CX
  have HR := Lib.hid fun U (h : Below w.heap.size w U) => (And.intro (hr.below h) (hs.below h))
  have CA := Lib.hid fun U (h : Below w.heap.size w U) => Clone_any A cp l U (hr.below h) (by omega) hnA
  have CB := Lib.hid fun U (h : Below w.heap.size w U) => Clone_any B cq s U (hs.below h) (by omega) hnB
  have CJ0 := Lib.hid fun U (h : Below w.heap.size w U) => jump_any o A B cp cq l s k U (hr.below h) (hs.below h) hk hks
  rw [show (if l.getD k 0 = 1 then 0 else s.getD k 0) = jumpOf l s k from rfl] at CJ0
  have CD1 := Lib.hid fun g c B W (h : OI .i64 3 W B (.slice (some ⟨g, 0, none⟩) l.length c) l) => Delete_own g c k B l W h hk
  have CD2 := Lib.hid fun g c B W (h : OI .i64 3 W B (.slice (some ⟨g, 0, none⟩) s.length c) s) => Delete_own g c k B s W h hks
  clear hr hs hnA hnB hg
  have HO := Lib.hid (show o + fr * jumpOf l s k = slO o l s k fr from rfl)
  have HLS := Lib.hid hls
  clear hq hok hls
  generalize slO o l s k fr = o' at *
  generalize jumpOf l s k = j at *
  go_enter Try.func40, Try.ntmps40
  go_wp2_with fail
  with_reducible refine CX.out.mono ?_
  rintro e w1 ⟨rfl, hb1⟩
  have HB1 := Lib.hid (below_then HB.out HB.out.size hb1)
  have HJ2 := Lib.hid (HK2.out.below hb1 (by simp; omega))
  have HJ4 := Lib.hid (HK4.out.below hb1 (by simp))
  clear hb1 CX
  obtain ⟨ad, hA, hel⟩ := (HR.out w1 HB1.out).1.at_ hk
  subst hA
  have j0 := HJ2.out.cell 0
  have j1 := HJ2.out.cell 1
  have j2 := HJ2.out.cell 2
  have hi0 : (0 : Int) ≤ (k : Int) := by omega
  have hi1 : (k : Int) < (l.length : Int) := by omega
  generalize l.getD k 0 = n at *
  have c3 : decide (fr < 0) = false := by simp; omega
  have c4 : decide (n ≤ fr) = false := by simp; omega
  have n1 : -9223372036854775808 ≤ fr * j := by omega
  have n2 : fr * j ≤ 9223372036854775807 := by omega
  have n3 : -9223372036854775808 ≤ o + fr * j := by omega
  have n4 : o + fr * j ≤ 9223372036854775807 := by omega
  have n5 : -9223372036854775808 ≤ (k : Int) + 1 := by omega
  have n6 : (k : Int) + 1 ≤ 9223372036854775807 := by omega
  have HWR := Lib.hid (show IntKind.i64.wrap (o + IntKind.i64.wrap (fr * j)) = o' from by
      have e1 : IntKind.i64.wrap (fr * j) = fr * j := by rw [IntKind.wrap_i64]; omega
      have e2 : IntKind.i64.wrap (o + fr * j) = o + fr * j := by rw [IntKind.wrap_i64]; omega
      rw [e1, e2, HO.out])
  have HKW := Lib.hid (show IntKind.i64.wrap ((k : Int) + 1) = (k : Int) + 1 from by rw [IntKind.wrap_i64]; omega)
  have CA' := Lib.hid fun X (h : Below w1.heap.size w1 X) => (CA.out X (below_then HB1.out HB1.out.size h)).mono (R' := fun e U => ∃ g c1, e = .returned (.slice (some ⟨g, 0, none⟩) l.length c1) ∧ OI .i64 3 U X.heap.size (.slice (some ⟨g, 0, none⟩) l.length c1) l ∧ Below X.heap.size X U ∧ Below w1.heap.size w1 U) (by
    rintro e U ⟨v, rfl, ho, hb⟩
    obtain ⟨A1, c1, rfl, _⟩ := ho.form
    obtain ⟨g, rfl⟩ := ho.some hk
    exact ⟨g, c1, rfl, ho, hb, below_then h h.size hb⟩)
  have CB' := Lib.hid fun X (h : Below w1.heap.size w1 X) => (CB.out X (below_then HB1.out HB1.out.size h)).mono (R' := fun e U => ∃ g c1, e = .returned (.slice (some ⟨g, 0, none⟩) s.length c1) ∧ OI .i64 3 U X.heap.size (.slice (some ⟨g, 0, none⟩) s.length c1) s ∧ Below X.heap.size X U ∧ Below w1.heap.size w1 U) (by
    rintro e U ⟨v, rfl, ho, hb⟩
    obtain ⟨A1, c1, rfl, _⟩ := ho.form
    obtain ⟨g, rfl⟩ := ho.some hks
    exact ⟨g, c1, rfl, ho, hb, below_then h h.size hb⟩)
  have CJ := Lib.hid fun X (h : Below w1.heap.size w1 X) => CJ0.out X (below_then HB1.out HB1.out.size h)
  have HDW := Lib.hid (show Below w1.heap.size w1 w1.drew from ⟨rfl, rfl, rfl, Nat.le_refl _, fun _ _ => rfl⟩)
  clear CA CB CJ0 hp1 b1 b2 b3 b4 b5 b6 b7 b8 b9 hf0 hf1
  go_upto_region 6 with fail
  go_region_held3 (fun w' => w'.cell? ⟨w.heap.size, 0, none⟩ = some (.int .i64 o) ∧ w'.cell? ⟨w.heap.size, 1, none⟩ = some (.slice (some ad) l.length cp) ∧ w'.cell? ⟨w.heap.size, 2, none⟩ = some (.slice B s.length cq) ) (first | exact hS | go_keep)
    (first
    | (go_at_call 53; have hpast := HP3; clear hpast; (try rw [HKW.out]); refine (CD2.out g2 c2 U2.heap.size U3 HP3.out).mono ?_; rintro e U4 ⟨rfl, ho4, hg4⟩; have HP4 := Lib.hid ho4; have HD4 := Lib.hid (below_grown HD3.out (Nat.le_refl _) hg4 (Nat.le_trans HD2.out.size HP3.out.base.1)); have HA4 := Lib.hid (OI.kept HA3.out hg4 (fun g hg e => by injection e with e; have := (HA2.out.lt g hg).2; have := HP3.out.base.1; omega)); have hS := (HJ2.out.below HD4.out HJ2.out.lt).view_cells; have HR4 := Lib.hid (HJ4.out.below HD4.out HJ4.out.lt); have k0 := HR4.out.cell 0; have k1 := HR4.out.cell 1; have k2 := HR4.out.cell 2; have f0 := HR4.out.frozen 0; have f1 := HR4.out.frozen 1; have f2 := HR4.out.frozen 2; clear ho4 hg4)
    | (go_at_call 46; have hpast := HA2; clear hpast; refine (CB'.out U2 HD2.out).mono ?_; rintro e U3 ⟨g2, c2, rfl, ho3, hb3, hd3⟩; have HP3 := Lib.hid ho3; have HD3 := Lib.hid hd3; have HA3 := Lib.hid (HA2.out.below hb3); have hS := (HJ2.out.below hd3 HJ2.out.lt).view_cells; clear ho3 hb3 hd3)
    | (go_at_call 53; (try rw [HKW.out]); refine (CD1.out g1 c1 U0.heap.size U1 HP1.out).mono ?_; rintro e U2 ⟨rfl, ho2, hg2⟩; have HA2 := Lib.hid ho2; have HD2 := Lib.hid (below_grown HD1.out (Nat.le_refl _) hg2 (Nat.le_trans HD0.out.size HP1.out.base.1)); have hS := (HJ2.out.below HD2.out HJ2.out.lt).view_cells; clear ho2 hg2)
    | (go_at_call 46; refine (CA'.out U0 HD0.out).mono ?_; rintro e U1 ⟨g1, c1, rfl, ho1, hb1, hd1⟩; have HP1 := Lib.hid ho1; have HD1 := Lib.hid hd1; have hS := (HJ2.out.below hd1 HJ2.out.lt).view_cells; clear ho1 hb1 hd1)
    | (go_at_call 52; refine (CJ.out w1.drew HDW.out).mono ?_; rintro e U0 ⟨rfl, hb0⟩; have HD0 := Lib.hid (show Below w1.heap.size w1 U0 from below_then HDW.out HDW.out.size hb0); have hS := (HJ2.out.below HD0.out HJ2.out.lt).view_cells; clear hb0))
  rw [HWR.out]
  have HKE := Lib.hid (((HR4.out.set_ 0 (.int .i64 o')).set_ 1 (.slice (some ⟨g1, 0, none⟩) (l.length - 1) c1)).set_ 2 (.slice (some ⟨g2, 0, none⟩) (s.length - 1) c2))
  have d0 := HKE.out.cell 0
  have d1 := HKE.out.cell 1
  have d2 := HKE.out.cell 2
  have hlt4 := HJ4.out.lt
  have hs0 := HD0.out.size
  have hs2 := HD2.out.size
  have hsB := HB1.out.size
  have HDD := Lib.hid (below_then HB1.out HB1.out.size HD4.out)
  clear k0 k1 k2 j0 j1 j2
  go_wp2_with fail
  refine bodyPost_ret (v := .tuple #[.agg (view o' (some ⟨g1, 0, none⟩) (l.length - 1) c1 (some ⟨g2, 0, none⟩) (s.length - 1) c2), .int .i64 0]) (by simp [results, Try.results40, go_sem, d0, d1, d2]) rfl ⟨_, c1, _, c2, rfl, ?_, ?_, ?_⟩
  · exact (keep_set (keep_set (keep_set HA4.out (fun g hg => by have := (HA4.out.lt g hg).1; omega)) (fun g hg => by have := (HA4.out.lt g hg).1; omega)) (fun g hg => by have := (HA4.out.lt g hg).1; omega)).mono (by omega)
  · exact (keep_set (keep_set (keep_set HP4.out (fun g hg => by have := (HP4.out.lt g hg).1; omega)) (fun g hg => by have := (HP4.out.lt g hg).1; omega)) (fun g hg => by have := (HP4.out.lt g hg).1; omega)).mono (by omega)
  · exact ((HDD.out.setCell (p := ⟨w.heap.size + 1, 0, none⟩) (by simp) _).setCell (p := ⟨w.heap.size + 1, 1, none⟩) (by simp) _).setCell (p := ⟨w.heap.size + 1, 2, none⟩) (by simp) _
end Go.Proofs.Ytdaajncfhcpecaa
