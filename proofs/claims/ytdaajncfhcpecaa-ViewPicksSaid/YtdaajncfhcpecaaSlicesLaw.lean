/- The walk of the law ViewSlices. No condition. -/
import Derived.Test.YtdaajncfhcpecaaVSlice
import Derived.Test.YtdaajncfhcpecaaTurnsLaw
import Derived.Test.YtdaajncfhcpecaaOpenFour
namespace Go.Proofs.Ytdaajncfhcpecaa
set_option linter.unusedVariables false
set_option linter.unusedSimpArgs false
open Go.RowKit
theorem OI.cap {k : IntKind} {e : TypeId} {w : World} {B : Nat} {A : Option Addr} {n c : Nat} {l : List Int} (h : OI k e w B (.slice A n c) l) : l.length ≤ c := by
  rcases h.2 with ⟨h1, hn⟩ | ⟨g, cap, cur, h1, hb, hh, hnc, _⟩
  · injection h1 with _ _ h3; omega
  · injection h1 with _ _ h3; omega
set_option maxRecDepth 100000 in
set_option maxHeartbeats 8000000 in
theorem slices_law (o : Int) (A B : Option Addr) (cp cq : Nat) (l s : List Int) (k fr step count : Int) (w : World) (hr : RI .i64 w A l) (hs : RI .i64 w B s) (hnA : A = none → l.length = 0 ∧ cp = 0) (hnB : B = none → s.length = 0 ∧ cq = 0) (hcap : l.length ≤ cp) (hm : l.length ≤ 9223372036854775807) (hms : s.length ≤ 9223372036854775807)
    (hws : ∀ n ∈ s, (Lit.int .i64 n).wf = true) :
    Calls Try.prog 13 #[.agg (view o A l.length cp B s.length cq), .int .i64 k, .int .i64 fr, .int .i64 step, .int .i64 count] w fun e w' => e = .returned (.bool true) ∧ Below w.heap.size w w' := by
  have HWS := Lib.hid fun (j : Nat) (hj : j < s.length) => bounds_i64 (hws _ (S.getD_mem hj))
  have HT0 := Lib.hid (St.new w 47 (view o A l.length cp B s.length cq))
  have HR := Lib.hid fun U (h : Below w.heap.size w U) => And.intro (hr.below h) (hs.below h)
  have CN := Lib.hid fun x (hx : (if V.check o l s 4096 ≠ 0 then V.check o l s 4096 else if k < 0 ∨ (l.length : Int) ≤ k then 10 else 0) = x) (hx0 : x ≠ 0) U (h : Below w.heap.size w U) => Slice_no o A B cp cq l s k fr step count U (hr.below h) (hs.below h) hm hms x hx hx0
  have CY := Lib.hid fun (hq : V.check o l s 4096 = 0) (kn : Nat) (hk : kn < l.length) (hw : -9223372036854775808 ≤ s.getD kn 0 ∧ s.getD kn 0 ≤ 9223372036854775807) (hg : slGood (l.getD kn 0) fr step count) U (h : Below w.heap.size w U) => Slice_yes o A B cp cq l s kn fr step count U (hr.below h) (hs.below h) hnA hnB hq hk hw hg
  have CB := Lib.hid fun (hq : V.check o l s 4096 = 0) (kn : Nat) (hk : kn < l.length) (hng : ¬ slGood (l.getD kn 0) fr step count) U (h : Below w.heap.size w U) => Slice_bad o A B cp cq l s kn fr step count U (hr.below h) (hs.below h) hq hk hng
  have CR := Lib.hid fun U (h : Below w.heap.size w U) => refCheck_any o A B cp cq l s 4096 U (hr.below h) (hs.below h) hcap hm hms
  have CO := Lib.hid fun U => of_any o A B l.length cp s.length cq U
  have CG := Lib.hid fun U => great_any o A B l.length cp s.length cq U
  have CCE := Lib.hid fun (a b c d : Int) (hls : s.length = l.length) (h4 : l.length ≤ 4) hi U (h : Below w.heap.size w U) => Cell_any o A B cp cq l s a b c d U (hs.below h) hls h4 hi
  clear hnA hnB hr hs hws
  go_enter Try.func13, Try.ntmps13
  go_wp2_with fail
  with_reducible refine (alive8_any _).mono ?_
  rintro e w1 ⟨rfl, hb1⟩
  have HT1 := Lib.hid (HT0.out.step hb1)
  clear hb1
  have a0 := HT1.out.blk.cell 0
  have a1 := HT1.out.blk.cell 1
  have a2 := HT1.out.blk.cell 2
  go_wp2_with fail
  with_reducible refine (CG.out _).mono ?_
  rintro e w2 ⟨rfl, hb2⟩
  have HT2 := Lib.hid (HT1.out.step hb2)
  clear hb2 a0 a1 a2 CG
  by_cases hg : 20 < l.length ∨ 20 < s.length
  · have hd := decide_eq_true hg
    rw [hd]
    clear hd hg
    go_wp2_with fail
    go_ret
    exact ⟨rfl, HT2.out.low⟩
  have hd := decide_eq_false hg
  rw [hd]
  clear hd hg
  have a0 := HT2.out.blk.cell 0
  have a1 := HT2.out.blk.cell 1
  have a2 := HT2.out.blk.cell 2
  go_wp2_with fail
  with_reducible refine (CO.out _).mono ?_
  rintro e w3 ⟨rfl, hb3⟩
  have HT3 := Lib.hid (HT2.out.step hb3)
  clear hb3 a0 a1 a2 CO
  have HAX := Lib.hid (show V.check o l s 4096 = 0 → ∀ kn : Nat, k = kn → kn < l.length → True from fun _ _ _ _ => trivial)
  by_cases hbad : V.check o l s 4096 ≠ 0 ∨ k < 0 ∨ (l.length : Int) ≤ k
  · obtain ⟨x, hx⟩ : ∃ x, (if V.check o l s 4096 ≠ 0 then V.check o l s 4096 else if k < 0 ∨ (l.length : Int) ≤ k then 10 else 0) = x := ⟨_, rfl⟩
    have hx0 : x ≠ 0 := by
      rw [← hx]
      split
      · assumption
      · rw [if_pos (by omega)]; omega
    have CN1 := Lib.hid (CN.out x hx hx0 w3 HT3.out.low)
    have HX1 := Lib.hid (show V.check o l s 4096 ≠ 0 → x = V.check o l s 4096 from fun h => by rw [← hx, if_pos h])
    have HX2 := Lib.hid (show V.check o l s 4096 = 0 → x = 10 ∧ (k < 0 ∨ (l.length : Int) ≤ k) from fun h => by
      have h2 : k < 0 ∨ (l.length : Int) ≤ k := by omega
      exact ⟨by rw [← hx, if_neg (by omega), if_pos h2], h2⟩)
    clear CN hx hbad CY CB CCE HAX
    generalize V.check o l s 4096 = q at *
    go_wp2_with fail
    with_reducible refine CN1.out.mono ?_
    rintro e w4 ⟨rfl, hb4⟩
    have HT4 := Lib.hid (HT3.out.step hb4)
    clear hb4 CN1
    have HT5 := Lib.hid (HT4.out.step ((Below.refl w4.heap.size w4).alloc (Nat.le_refl _) (.cells noView 49)))
    have HK5 := Lib.hid (Blk.new w4 49 noView)
    have a0 := HT5.out.blk.cell 0
    have a1 := HT5.out.blk.cell 1
    have a2 := HT5.out.blk.cell 2
    go_wp2_with fail
    with_reducible refine (CR.out _ HT5.out.low).mono ?_
    rintro e w6 ⟨rfl, hb6⟩
    have HT6 := Lib.hid (HT5.out.step hb6)
    have HK6 := Lib.hid (HK5.out.below hb6 HK5.out.lt)
    clear hb6 a0 a1 a2
    have k0 := HK6.out.cell 0
    have k1 := HK6.out.cell 1
    have k2 := HK6.out.cell 2
    have a1 := HT6.out.blk.cell 1
    by_cases hq : q = 0
    · subst hq
      obtain ⟨rfl, hk⟩ := HX2.out rfl
      by_cases hk0 : k < 0
      · have hd := decide_eq_true hk0
        clear hk hk0 hx0
        go_wp2_with fail
        with_reducible refine (empty_no _).mono ?_
        rintro e w7 ⟨rfl, hb7⟩
        have HT7 := Lib.hid (HT6.out.step hb7)
        clear hb7
        go_wp2_with fail
        go_ret
        exact ⟨rfl, HT7.out.low⟩
      · have hd := decide_eq_false hk0
        have hd2 : decide ((l.length : Int) ≤ k) = true := by simp; omega
        clear hk hk0 hx0
        go_wp2_with fail
        with_reducible refine (empty_no _).mono ?_
        rintro e w7 ⟨rfl, hb7⟩
        have HT7 := Lib.hid (HT6.out.step hb7)
        clear hb7
        go_wp2_with fail
        go_ret
        exact ⟨rfl, HT7.out.low⟩
    · obtain rfl := HX1.out hq
      have hq1 : (x != 0) = true := by simp [hq]
      have hq2 : (x == 0) = false := by simp [hq]
      clear hq hx0
      go_wp2_with fail
      with_reducible refine (empty_no _).mono ?_
      rintro e w7 ⟨rfl, hb7⟩
      have HT7 := Lib.hid (HT6.out.step hb7)
      clear hb7
      go_wp2_with fail
      go_ret
      exact ⟨rfl, HT7.out.low⟩
  · obtain ⟨kn, rfl⟩ : ∃ kn : Nat, k = (kn : Int) := ⟨k.toNat, by omega⟩
    have hq : V.check o l s 4096 = 0 := by omega
    have hk : kn < l.length := by omega
    have hd : decide ((kn : Int) < 0) = false := by simp
    have hd2 : decide ((l.length : Int) ≤ (kn : Int)) = false := by simp; omega
    have hd2n : decide (l.length ≤ kn) = false := by simp; omega
    rw [hq] at CR
    obtain ⟨hls, hok, _⟩ := V.check_zero hq
    have h4 := hok.1
    have hks : kn < s.length := by omega
    have hp := V.get_le_prod l kn hok.2.1
    have hp1 := hok.2.1 _ (S.getD_mem hk)
    have hle := hok.2.2
    by_cases hg : slGood (l.getD kn 0) fr step count
    · have CY1 := Lib.hid (CY.out hq kn hk (HWS.out kn hks) hg w3 HT3.out.low)
      have hq' := V.sl_check hq hk hg
      have hok' := V.slOk hok hk hg
      obtain ⟨b1, b2, b3, b4, b5, b6, b7, b8, b9, b10, b11⟩ := V.slBound hq hk hg
      have hsl := slS_length s kn step count
      have hll : (l.set kn count).length = l.length := List.length_set ..
      have hN := sizeN_ok hok'
      have hle' := hok'.2.2
      rw [← hN] at hle'
      have HCL' := Lib.hid (cells_length hq')
      have CS := Lib.hid fun U A1 c1 A2 c2 (h1 : RI .i64 U A1 (l.set kn count)) (h2 : RI .i64 U A2 (slS s kn step count)) => Cells_any (slO o l s kn fr) A1 A2 c1 c2 (l.set kn count) (slS s kn step count) U h1 h2 (by omega) (by omega)
      have CK := Lib.hid fun U A1 c1 A2 c2 (h1 : RI .i64 U A1 (l.set kn count)) (h2 : RI .i64 U A2 (slS s kn step count)) => Check_any (slO o l s kn fr) A1 A2 c1 c2 (l.set kn count) (slS s kn step count) 4096 U h1 h2 (by omega) (by omega)
      have CZ := Lib.hid fun U A1 c1 (h1 : RI .i64 U A1 (l.set kn count)) => refSize_any A1 c1 (l.set kn count) U h1 (by omega)
      have CAT := Lib.hid fun U A1 c1 (n a b c d : Int) (h1 : RI .i64 U A1 (l.set kn count)) (hc : (l.set kn count).length ≤ c1) h0 h1' hx => refAt_any A1 c1 (l.set kn count) n a b c d U h1 hc hok' h0 h1' hx
      rw [hok'.size, ← hN] at CZ
      rw [hq'] at CK
      rw [hll, hsl] at CS CK
      rw [hll] at CZ CAT
      have HIX := Lib.hid (show ∀ m, m < sizeN (l.set kn count) → ∃ a b c d a' b' c' d', S.pad (S.atL (l.set kn count) m) = [a, b, c, d] ∧ (four a b c d).setIfInBounds kn (.int .i64 (fr + [a, b, c, d].getD kn 0 * slT step count)) = four a' b' c' d' ∧
          (∀ j, 0 ≤ [a', b', c', d'].getD j 0 ∧ [a', b', c', d'].getD j 0 ≤ 4096) ∧ 0 ≤ [a, b, c, d].getD kn 0 ∧ [a, b, c, d].getD kn 0 < count ∧ (V.cells (slO o l s kn fr) (l.set kn count) (slS s kn step count)).getD m 0 = V.cellR o s [a', b', c', d'] s.length from fun m hm => by
        have hi := V.idx_at hok' hm
        obtain ⟨a, b, c, d, hx⟩ := list_four hi.1
        obtain ⟨a', b', c', d', h1, h2⟩ := four_set _ a b c d rfl kn (by omega) (fr + [a, b, c, d].getD kn 0 * slT step count)
        have ht := V.slIdx_ok hok hk hg hi.1 hi.2.1
        have hc := V.slCell hq hk hg hi.1 hi.2.1
        rw [hx] at ht hc
        unfold V.slIdx at ht hc
        rw [← h2] at ht hc
        refine ⟨a, b, c, d, a', b', c', d', hx, h1, fun j => idx_small hok ht.1 ht.2.1 j, ht.2.2.1, ht.2.2.2, ?_⟩
        rw [cells_get hq' hm, ← hc]
        unfold V.cellOf
        rw [hx])
      have HCNT := Lib.hid (V.getD_set_self hk count)
      have CCE' := Lib.hid fun (a b c d : Int) hi U (h : Below w.heap.size w U) => CCE.out a b c d hls.symm h4 hi U h
      have HT1' := Lib.hid (show count = 1 → 1 = slT step count from fun h => by unfold slT; rw [if_pos h])
      have HT2' := Lib.hid (show count ≠ 1 → step = slT step count from fun h => by unfold slT; rw [if_neg h])
      obtain ⟨g1, g2, g3, g4, g5, g6, g7, g8, g9⟩ := hg
      have HLL := Lib.hid hll
      clear hq' hok' hsl hN b10 b11 hq hok hls hbad HAX CY CB CCE hll
      have hkl : kn < (l.set kn count).length := by rw [HLL.out]; exact hk
      generalize V.cells (slO o l s kn fr) (l.set kn count) (slS s kn step count) = cl at *
      generalize slO o l s kn fr = o' at *
      generalize slS s kn step count = s' at *
      generalize sizeN (l.set kn count) = N at *
      generalize slT step count = t at *
      generalize l.set kn count = l' at *
      go_wp2_with fail
      with_reducible refine CY1.out.mono ?_
      rintro e w4 ⟨A1, c1, A2, c2, rfl, ho1, ho2, hb4⟩
      have HT4 := Lib.hid (HT3.out.step hb4)
      have HO1 := Lib.hid ho1
      have HO2 := Lib.hid ho2
      have hcap1 := ho1.cap
      rw [HLL.out] at hcap1
      clear hb4 CY1 ho1 ho2
      have HT5 := Lib.hid (HT4.out.step ((Below.refl w4.heap.size w4).alloc (Nat.le_refl _) (.cells (view o' A1 l.length c1 A2 s.length c2) 49)))
      have HK5 := Lib.hid (Blk.new w4 49 (view o' A1 l.length c1 A2 s.length c2))
      have HD5 := Lib.hid ((Below.refl w4.heap.size w4).alloc (Nat.le_refl _) (.cells (view o' A1 l.length c1 A2 s.length c2) 49))
      have a0 := HT5.out.blk.cell 0
      have a1 := HT5.out.blk.cell 1
      have a2 := HT5.out.blk.cell 2
      go_wp2_with fail
      with_reducible refine (CR.out _ HT5.out.low).mono ?_
      rintro e w6 ⟨rfl, hb6⟩
      have HT6 := Lib.hid (HT5.out.step hb6)
      have HK6 := Lib.hid (HK5.out.below hb6 HK5.out.lt)
      have HD6 := Lib.hid (below_then HD5.out HD5.out.size hb6)
      clear hb6 a0 a1 a2 CR HT5 HK5 HD5 HT0 HT1 HT2 HT3 HT4
      have a1 := HT6.out.blk.cell 1
      obtain ⟨ad, hA, hel⟩ := (HR.out _ HT6.out.low).1.at_ hk
      subst hA
      have b0 := HK6.out.cell 0
      have b1' := HK6.out.cell 1
      have b2' := HK6.out.cell 2
      obtain ⟨pd, hP, hpl⟩ := (HO1.out.ri.below HD6.out).at_ hkl
      subst hP
      rw [HCNT.out] at hpl
      generalize l.getD kn 0 = n at *
      have hi0 : (0 : Int) ≤ (kn : Int) := by omega
      have hi1 : (kn : Int) < (l.length : Int) := by omega
      have e1 : decide (1 ≤ count) = true := by simp; omega
      have e2 : decide (count ≤ n) = true := by simp; omega
      have e3 : decide (0 ≤ fr) = true := by simp; omega
      have e4 : decide (fr < n) = true := by simp; omega
      go_upto_if 87 with fail
      go_cut [15] from 83 to 114 (fun c15 wx => c15 = .bool true ∧ w6 = wx)
      case first =>
        by_cases h1 : 1 < count
        · have e5 := decide_eq_true h1
          obtain rfl := HT2'.out (by omega)
          have hmul : -16777216 ≤ (count - 1) * step ∧ (count - 1) * step ≤ 16777216 := by
            have := V.mul_bound (x := count - 1) (y := step) (X := 4096) (Y := 4096) (by omega) (by omega) (by omega) (by omega) (by omega)
            omega
          have h7 := g7 (by omega)
          have e6 : (step != 0) = true := by simp [g5]
          have e6' : (step == 0) = false := by simp [g5]
          have e7 : decide (-n < step) = true := by simp; omega
          have e8 : decide (step < n) = true := by simp; omega
          have m1 : -9223372036854775808 ≤ -n := by omega
          have m2 : -n ≤ 9223372036854775807 := by omega
          have m3 : -9223372036854775808 ≤ count - 1 := by omega
          have m4 : count - 1 ≤ 9223372036854775807 := by omega
          have m5 : -9223372036854775808 ≤ (count - 1) * step := by omega
          have m6 : (count - 1) * step ≤ 9223372036854775807 := by omega
          have m7 : -9223372036854775808 ≤ fr + (count - 1) * step := by omega
          have m8 : fr + (count - 1) * step ≤ 9223372036854775807 := by omega
          have e9 : decide (0 ≤ fr + (count - 1) * step) = true := by simp; omega
          have e10 : decide (fr + (count - 1) * step < n) = true := by simp; omega
          clear hmul h7 h1 g1 g2 g3 g4 g5 g6 g7 g8 g9
          rw [e5]
          go_wp2_with fail
          go_meet
          exact ⟨rfl, rfl⟩
        · have e5 := decide_eq_false h1
          clear h1
          rw [e5]
          go_wp2_with fail
          go_meet
          exact ⟨rfl, rfl⟩
      case rest =>
      obtain ⟨rfl, rfl⟩ := hcut
      have hqc : (count != count) = false := by simp
      go_wp2_with fail
      with_reducible refine (CK.out _ _ _ _ _ (HO1.out.ri.below HD6.out) (HO2.out.ri.below HD6.out)).mono ?_
      rintro e w7 ⟨rfl, hb7⟩
      have HT7 := Lib.hid (HT6.out.step hb7)
      have HK7 := Lib.hid (HK6.out.below hb7 HK6.out.lt)
      have HD7 := Lib.hid (below_then HD6.out HD6.out.size hb7)
      clear hb7 CK HT6 HK6 HD6 a1 b0 b1' b2' hel hpl e1 e2 e3 e4
      have b0 := HK7.out.cell 0
      have b1' := HK7.out.cell 1
      have b2' := HK7.out.cell 2
      go_wp2_with fail
      with_reducible refine (CZ.out _ _ _ (HO1.out.ri.below HD7.out)).mono ?_
      rintro e w' ⟨rfl, rfl⟩
      go_wp2_with fail
      with_reducible refine (CS.out _ _ _ _ _ (HO1.out.ri.below HD7.out) (HO2.out.ri.below HD7.out)).mono ?_
      rintro e w8 ⟨v8, rfl, ho8, hb8⟩
      obtain ⟨Ac, cc, rfl, hrc⟩ := ho8.form
      have HRC := Lib.hid hrc
      have HT8 := Lib.hid (HT7.out.step hb8)
      have HK8 := Lib.hid (HK7.out.below hb8 HK7.out.lt)
      have HD8 := Lib.hid (below_then HD7.out HD7.out.size hb8)
      clear hb8 b0 b1' b2' hrc ho8 CS HT7 HK7 HD7 CZ
      rw [HCL'.out]
      go_wp2_with fail
      go_loopw [20] (fun n wr => ∃ m : Nat, m ≤ N ∧ n = .int .i64 m ∧ Hid (Below w8.heap.size w8 wr)) (fun n _ => N - (intOf n).toNat)
      case atStart => exact ⟨0, by omega, rfl, Lib.hid (Below.refl _ _)⟩
      case round =>
        obtain ⟨m, hm', rfl, HBr⟩ := hrel
        have HTr := Lib.hid (HT8.out.step HBr.out)
        have HDr := Lib.hid (below_then HD8.out HD8.out.size HBr.out)
        by_cases hlt : m < N
        · obtain ⟨a, b, c, d, a', b', c', d', hx, hset, hsm, hx0, hx1, hcell⟩ := HIX.out m hlt
          obtain ⟨qd, hQ, hql⟩ := (HRC.out.below HBr.out).at_ (i := m) (by rw [HCL'.out]; exact hlt)
          subst hQ
          rw [hcell] at hql
          have HCEL := Lib.hid (show ∀ U, Below w8.heap.size w8 U → U.cell? (qd.add m) = some (.int .i64 (V.cellR o s [a', b', c', d'] s.length)) from fun U hU => by
            obtain ⟨qd', hQ', hql'⟩ := (HRC.out.below hU).at_ (i := m) (by rw [HCL'.out]; exact hlt)
            injection hQ' with hQ'
            subst hQ'
            rw [hcell] at hql'
            exact hql')
          have CC1 := Lib.hid fun U h => CCE'.out a' b' c' d' hsm U h
          have CA1 := Lib.hid (CAT.out wr _ c1 m a b c d (HO1.out.ri.below HDr.out) hcap1 (by omega) (by omega) hx)
          have hi0 : (0 : Int) ≤ (m : Int) := by omega
          have hi1 : (m : Int) < (N : Int) := by omega
          have b1' := (HK8.out.below HBr.out HK8.out.lt).cell 1
          clear hx hsm hcell hql
          generalize V.cellR o s [a', b', c', d'] s.length = y at *
          go_wp2_with fail
          with_reducible refine CA1.out.mono ?_
          rintro e w9 ⟨rfl, hb9⟩
          have HBa := Lib.hid (below_then HBr.out HBr.out.size hb9)
          clear hb9 CA1
          go_upto_region 30 with fail
          generalize hW : w9.alloc (.cells (four a b c d) 32) = W1
          have HF1 := Lib.hid (show Blk W1 w9.heap.size 32 (four a b c d) from by rw [← hW]; exact Blk.new _ _ _)
          have HB1 := Lib.hid (show Below w8.heap.size w8 W1 from by rw [← hW]; exact HBa.out.alloc HBa.out.size _)
          have hsz : w8.heap.size ≤ w9.heap.size := HBa.out.size
          clear hW
          have hfk := (HF1.out.cell kn).trans (four_get a b c d kn (by omega))
          have hff := HF1.out.frozen kn
          have HSET := Lib.hid hset
          generalize [a, b, c, d].getD kn 0 = z at *
          have hk4 : (kn : Int) < 4 := by omega
          have hk0 : (0 : Int) ≤ (kn : Int) := by omega
          have hzt := V.mul_bound (x := z) (y := t) (X := 4096) (Y := 4096) (by omega) (by omega) (by omega) (by omega) (by omega)
          clear hset
          go_upto_if 170 with fail
          go_cut [20] from 160 to 190 (fun c20 wx => c20 = .int .i64 m ∧ Hid (Blk wx w9.heap.size 32 (four a' b' c' d')) ∧ Hid (Below w8.heap.size w8 wx))
          case first =>
            by_cases h1 : 1 < count
            · have e5 := decide_eq_true h1
              obtain rfl := HT2'.out (by omega)
              have m3 : -9223372036854775808 ≤ z * step := by omega
              have m4 : z * step ≤ 9223372036854775807 := by omega
              have m5 : -9223372036854775808 ≤ fr + z * step := by omega
              have m6 : fr + z * step ≤ 9223372036854775807 := by omega
              clear h1 hzt
              rw [e5]
              go_wp2_with fail
              go_meet
              refine ⟨rfl, Lib.hid ?_, Lib.hid (HB1.out.setCell (p := ⟨w9.heap.size, kn, none⟩) hsz _)⟩
              rw [← HSET.out]
              exact HF1.out.set_ kn _
            · have e5 := decide_eq_false h1
              have hz0 : z = 0 := by omega
              have hzz : fr + z * t = fr := by rw [hz0]; omega
              have HZZ := Lib.hid hzz
              clear h1 hzt hz0 hzz
              rw [e5]
              go_wp2_with fail
              go_meet
              refine ⟨rfl, Lib.hid ?_, Lib.hid (HB1.out.setCell (p := ⟨w9.heap.size, kn, none⟩) hsz _)⟩
              rw [← HSET.out, HZZ.out]
              exact HF1.out.set_ kn _
          case rest =>
          obtain ⟨rfl, HF2, HB2⟩ := hcut
          have HT2 := Lib.hid (HT8.out.step HB2.out)
          clear hfk hff hzt
          have x0 := HF2.out.cell 0
          have x1 := HF2.out.cell 1
          have x2 := HF2.out.cell 2
          have x3 := HF2.out.cell 3
          have a0 := HT2.out.blk.cell 0
          have a1 := HT2.out.blk.cell 1
          have a2 := HT2.out.blk.cell 2
          have hqe := HCEL.out _ HB2.out
          have HB2d := Lib.hid (show Below w8.heap.size w8 wc.drew from ⟨HB2.out.os, HB2.out.tape, HB2.out.output, HB2.out.size, HB2.out.block⟩)
          go_upto_region 33 with fail
          go_region_held3 (fun w' => w'.cell? ⟨w.heap.size, 0, none⟩ = some (.int .i64 o) ∧ w'.cell? ⟨w.heap.size, 1, none⟩ = some (.slice (some ad) l.length cp) ∧ w'.cell? ⟨w.heap.size, 2, none⟩ = some (.slice B s.length cq) ∧
              w'.cell? ⟨w9.heap.size, 0, none⟩ = some (.int .i64 a') ∧ w'.cell? ⟨w9.heap.size, 1, none⟩ = some (.int .i64 b') ∧ w'.cell? ⟨w9.heap.size, 2, none⟩ = some (.int .i64 c') ∧ w'.cell? ⟨w9.heap.size, 3, none⟩ = some (.int .i64 d') ∧ w'.cell? (qd.add m) = some (.int .i64 y)) (first | exact hS | exact ⟨a0, a1, a2, x0, x1, x2, x3, hqe⟩ | go_keep)
            (first
            | (go_at_call 37; refine (CC1.out _ (below_then HT8.out.low HT8.out.low.size HB2d.out)).mono ?_; rintro e w10 ⟨rfl, hb10⟩; have HB3 := Lib.hid (below_then HB2d.out HB2d.out.size hb10); have HT3 := Lib.hid (HT8.out.step HB3.out); have HF3 := Lib.hid ((HF2.out.drewN 1).below hb10 HF2.out.lt); have hS := And.intro (HT3.out.blk.cell 0) (And.intro (HT3.out.blk.cell 1) (And.intro (HT3.out.blk.cell 2) (And.intro (HF3.out.cell 0) (And.intro (HF3.out.cell 1) (And.intro (HF3.out.cell 2) (And.intro (HF3.out.cell 3) (HCEL.out _ HB3.out))))))); clear hb10))
          all_goals
            go_wp2_with fail
            go_roundw
            case rel => exact ⟨m + 1, by omega, by go_num, HB3⟩
            case measure => simp [intOf]; omega
        · obtain rfl : m = N := by omega
          go_wp2_with fail
          go_ret
          exact ⟨rfl, HTr.out.low⟩
    · have CB1 := Lib.hid (CB.out hq kn hk hg w3 HT3.out.low)
      have HNG := Lib.hid hg
      have h1n : l.getD kn 0 ≤ 4096 := by omega
      clear CY CB CCE hg hbad HAX hq hok hls hp hle
      go_wp2_with fail
      with_reducible refine CB1.out.mono ?_
      rintro e w4 ⟨rfl, hb4⟩
      have HT4 := Lib.hid (HT3.out.step hb4)
      clear hb4 CB1
      have HT5 := Lib.hid (HT4.out.step ((Below.refl w4.heap.size w4).alloc (Nat.le_refl _) (.cells noView 49)))
      have HK5 := Lib.hid (Blk.new w4 49 noView)
      have a0 := HT5.out.blk.cell 0
      have a1 := HT5.out.blk.cell 1
      have a2 := HT5.out.blk.cell 2
      go_wp2_with fail
      with_reducible refine (CR.out _ HT5.out.low).mono ?_
      rintro e w6 ⟨rfl, hb6⟩
      have HT6 := Lib.hid (HT5.out.step hb6)
      have HK6 := Lib.hid (HK5.out.below hb6 HK5.out.lt)
      clear hb6 a0 a1 a2
      have k0 := HK6.out.cell 0
      have k1 := HK6.out.cell 1
      have k2 := HK6.out.cell 2
      have a1 := HT6.out.blk.cell 1
      obtain ⟨ad, hA, hel⟩ := (HR.out _ HT6.out.low).1.at_ hk
      subst hA
      have hi0 : (0 : Int) ≤ (kn : Int) := by omega
      have hi1 : (kn : Int) < (l.length : Int) := by omega
      have CEM := Lib.hid ((empty_no w6).mono (R' := fun e U => e = .returned (.bool true) ∧ Below w.heap.size w U) (by
        rintro e U ⟨rfl, hb⟩
        exact ⟨rfl, below_then HT6.out.low HT6.out.low.size hb⟩))
      generalize l.getD kn 0 = n at *
      by_cases c1 : count < 1
      · have e1 : decide (1 ≤ count) = false := by simp; omega
        clear c1
        go_wp2_with fail
        with_reducible refine CEM.out.mono ?_
        rintro e w7 ⟨rfl, hb7⟩
        have HB7 := Lib.hid hb7
        clear hb7
        go_wp2_with fail
        go_ret
        exact ⟨rfl, HB7.out⟩
      have e1 : decide (1 ≤ count) = true := by simp; omega
      by_cases c2 : n < count
      · have e2 : decide (count ≤ n) = false := by simp; omega
        clear c1 c2
        go_wp2_with fail
        with_reducible refine CEM.out.mono ?_
        rintro e w7 ⟨rfl, hb7⟩
        have HB7 := Lib.hid hb7
        clear hb7
        go_wp2_with fail
        go_ret
        exact ⟨rfl, HB7.out⟩
      have e2 : decide (count ≤ n) = true := by simp; omega
      by_cases c3 : fr < 0
      · have e3 : decide (0 ≤ fr) = false := by simp; omega
        clear c1 c2 c3
        go_wp2_with fail
        with_reducible refine CEM.out.mono ?_
        rintro e w7 ⟨rfl, hb7⟩
        have HB7 := Lib.hid hb7
        clear hb7
        go_wp2_with fail
        go_ret
        exact ⟨rfl, HB7.out⟩
      have e3 : decide (0 ≤ fr) = true := by simp; omega
      by_cases c4 : n ≤ fr
      · have e4 : decide (fr < n) = false := by simp; omega
        clear c1 c2 c3 c4
        go_wp2_with fail
        with_reducible refine CEM.out.mono ?_
        rintro e w7 ⟨rfl, hb7⟩
        have HB7 := Lib.hid hb7
        clear hb7
        go_wp2_with fail
        go_ret
        exact ⟨rfl, HB7.out⟩
      have e4 : decide (fr < n) = true := by simp; omega
      have c5 : count ≠ 1 := fun h => HNG.out (by
        subst h
        refine ⟨by omega, by omega, by omega, by omega, ?_, ?_, ?_, ?_, ?_⟩ <;> unfold slT <;> simp <;> omega)
      have e5 : decide (1 < count) = true := by simp; omega
      have m1 : -9223372036854775808 ≤ -n := by omega
      have m2 : -n ≤ 9223372036854775807 := by omega
      by_cases c6 : step = 0
      · have e6 : (step != 0) = false := by simp [c6]
        have e6' : (step == 0) = true := by simp [c6]
        clear c1 c2 c3 c4 c5 c6
        go_wp2_with fail
        with_reducible refine CEM.out.mono ?_
        rintro e w7 ⟨rfl, hb7⟩
        have HB7 := Lib.hid hb7
        clear hb7
        go_wp2_with fail
        go_ret
        exact ⟨rfl, HB7.out⟩
      have e6 : (step != 0) = true := by simp [c6]
      have e6' : (step == 0) = false := by simp [c6]
      by_cases c7 : step ≤ -n
      · have e7 : decide (-n < step) = false := by simp; omega
        clear c1 c2 c3 c4 c5 c6 c7
        go_wp2_with fail
        with_reducible refine CEM.out.mono ?_
        rintro e w7 ⟨rfl, hb7⟩
        have HB7 := Lib.hid hb7
        clear hb7
        go_wp2_with fail
        go_ret
        exact ⟨rfl, HB7.out⟩
      have e7 : decide (-n < step) = true := by simp; omega
      by_cases c8 : n ≤ step
      · have e8 : decide (step < n) = false := by simp; omega
        clear c1 c2 c3 c4 c5 c6 c7 c8
        go_wp2_with fail
        with_reducible refine CEM.out.mono ?_
        rintro e w7 ⟨rfl, hb7⟩
        have HB7 := Lib.hid hb7
        clear hb7
        go_wp2_with fail
        go_ret
        exact ⟨rfl, HB7.out⟩
      have e8 : decide (step < n) = true := by simp; omega
      have m3 : -9223372036854775808 ≤ count - 1 := by omega
      have m4 : count - 1 ≤ 9223372036854775807 := by omega
      have hmul := V.mul_bound (x := count - 1) (y := step) (X := 4096) (Y := 4096) (by omega) (by omega) (by omega) (by omega) (by omega)
      have m5 : -9223372036854775808 ≤ (count - 1) * step := by omega
      have m6 : (count - 1) * step ≤ 9223372036854775807 := by omega
      have m7 : -9223372036854775808 ≤ fr + (count - 1) * step := by omega
      have m8 : fr + (count - 1) * step ≤ 9223372036854775807 := by omega
      by_cases c9 : fr + (count - 1) * step < 0
      · have e9 : decide (0 ≤ fr + (count - 1) * step) = false := by simp; omega
        clear c1 c2 c3 c4 c5 c6 c7 c8 c9 hmul
        go_wp2_with fail
        with_reducible refine CEM.out.mono ?_
        rintro e w7 ⟨rfl, hb7⟩
        have HB7 := Lib.hid hb7
        clear hb7
        go_wp2_with fail
        go_ret
        exact ⟨rfl, HB7.out⟩
      have e9 : decide (0 ≤ fr + (count - 1) * step) = true := by simp; omega
      by_cases c10 : n ≤ fr + (count - 1) * step
      · have e10 : decide (fr + (count - 1) * step < n) = false := by simp; omega
        clear c1 c2 c3 c4 c5 c6 c7 c8 c9 c10 hmul
        go_wp2_with fail
        with_reducible refine CEM.out.mono ?_
        rintro e w7 ⟨rfl, hb7⟩
        have HB7 := Lib.hid hb7
        clear hb7
        go_wp2_with fail
        go_ret
        exact ⟨rfl, HB7.out⟩
      refine absurd ?_ HNG.out
      have ht : slT step count = step := by unfold slT; rw [if_neg c5]
      unfold slGood
      rw [ht]
      exact ⟨by omega, by omega, by omega, by omega, c6, by omega, fun _ => by omega, by omega, by omega⟩
end Go.Proofs.Ytdaajncfhcpecaa
