/- The walk of the law ViewPicks. No condition. -/
import Derived.Test.YtdaajncfhcpecaaVPick
import Derived.Test.YtdaajncfhcpecaaVPkMath
import Derived.Test.YtdaajncfhcpecaaSlicesLaw
import Derived.DataElems
namespace Go.Proofs.Ytdaajncfhcpecaa
set_option linter.unusedVariables false
set_option linter.unusedSimpArgs false
open Go Go.RowKit Go.Shelf
/-- 'append(out, xs...)' as a run: out a row of the call's own, or none. -/
theorem append_runRI (W : World) (B : Nat) (v : Value) (l ys : List Int) (ad : Addr) (c : Nat) (hown : OI .i64 3 W B v l) (hr : RI .i64 W (some ad) ys) (hlen : l.length + ys.length ≤ 8192) (hB : B ≤ W.heap.size) :
    ∃ v' W', (Builtin.append_ #[22, 22] 22 #[v, .slice (some ad) ys.length c]).run Try.prog W = .ok v' W' ∧ OI .i64 3 W' B v' (l ++ ys) ∧ Below B W W' := by
  obtain ⟨i0, h1, h2, h3, h4⟩ := info_parts info3
  obtain ⟨v', W', hr', h2', h3', _⟩ := run_append_own_at (P := Try.prog) W B 22 22 3 i0 (.int .i64 0) 1 8 under22 h1 h2 h3 h4 rfl (by decide) v l.length (ints .i64 l) hown ad ys.length c (ints .i64 ys) (by simp [ints])
    (fun j u hj => by
      have hj2 : j < ys.length := by have := (List.getElem?_eq_some_iff.1 hj).1; simpa [ints] using this
      obtain ⟨ad', he, hcell⟩ := hr j hj2
      injection he with he
      subst he
      rw [ints_at .i64 ys hj2] at hj
      rw [hcell]
      exact hj)
    (by
      intro u hu
      simp only [ints, List.mem_map] at hu
      obtain ⟨y, _, rfl⟩ := hu
      rfl) (by unfold maxLen; omega) (by omega) hB
  refine ⟨v', W', hr', ?_, ?_⟩
  · unfold OI; simpa [ints] using h2'
  · exact (Below.refl _ _).grown h3' hB (fun g hg' => (hown.lt g hg').1)
attribute [-go_sem] Go.Builtin.append_
set_option maxRecDepth 100000 in
set_option maxHeartbeats 8000000 in
theorem picks_law (o : Int) (A B : Option Addr) (cp cq : Nat) (l s : List Int) (k fr : Int) (w : World) (hr : RI .i64 w A l) (hs : RI .i64 w B s) (hnA : A = none → l.length = 0 ∧ cp = 0) (hnB : B = none → s.length = 0 ∧ cq = 0) (hcap : l.length ≤ cp) (hm : l.length ≤ 9223372036854775807) (hms : s.length ≤ 9223372036854775807) :
    Calls Try.prog 12 #[.agg (view o A l.length cp B s.length cq), .int .i64 k, .int .i64 fr] w fun e w' => e = .returned (.bool true) ∧ Below w.heap.size w w' := by
  have HT0 := Lib.hid (St.new w 47 (view o A l.length cp B s.length cq))
  have HR := Lib.hid fun U (h : Below w.heap.size w U) => And.intro (hr.below h) (hs.below h)
  have CN := Lib.hid fun x (hx : (if V.check o l s 4096 ≠ 0 then V.check o l s 4096 else if k < 0 ∨ (l.length : Int) ≤ k then 10 else 0) = x) (hx0 : x ≠ 0) U (h : Below w.heap.size w U) => Pick_no o A B cp cq l s k fr U (hr.below h) (hs.below h) hm hms x hx hx0
  have CY := Lib.hid fun (hq : V.check o l s 4096 = 0) (kn : Nat) (hk : kn < l.length) (h0 : 0 ≤ fr) (h1 : fr < l.getD kn 0) U (h : Below w.heap.size w U) => Pick_yes o A B cp cq l s kn fr U (hr.below h) (hs.below h) hnA hnB hq hk h0 h1
  have CB := Lib.hid fun (hq : V.check o l s 4096 = 0) (kn : Nat) (hk : kn < l.length) (hng : fr < 0 ∨ l.getD kn 0 ≤ fr) U (h : Below w.heap.size w U) => Pick_bad o A B cp cq l s kn fr U (hr.below h) (hs.below h) hq hk hng
  have CR := Lib.hid fun U (h : Below w.heap.size w U) => refCheck_any o A B cp cq l s 4096 U (hr.below h) (hs.below h) hcap hm hms
  have CO := Lib.hid fun U => of_any o A B l.length cp s.length cq U
  have CG := Lib.hid fun U => great_any o A B l.length cp s.length cq U
  have CCE := Lib.hid fun (a b c d : Int) (hls : s.length = l.length) (h4 : l.length ≤ 4) hi U (h : Below w.heap.size w U) => Cell_any o A B cp cq l s a b c d U (hs.below h) hls h4 hi
  clear hnA hnB hr hs
  go_enter Try.func12, Try.ntmps12
  go_wp2_with fail
  with_reducible refine (alive8_any _).mono ?_
  rintro e w1 ⟨rfl, hb1⟩
  have HT1 := Lib.hid (HT0.out.step hb1)
  clear hb1
  have a0 := HT1.out.blk.cell 0
  have a1 := HT1.out.blk.cell 1
  have a2 := HT1.out.blk.cell 2
  go_wp2_with fail
  with_reducible refine (CG.out _).mono ?_
  rintro e w2 ⟨rfl, hb2⟩
  have HT2 := Lib.hid (HT1.out.step hb2)
  clear hb2 a0 a1 a2 CG
  by_cases hg : 20 < l.length ∨ 20 < s.length
  · have hd := decide_eq_true hg
    rw [hd]
    clear hd hg
    go_wp2_with fail
    go_ret
    exact ⟨rfl, HT2.out.low⟩
  have hd := decide_eq_false hg
  rw [hd]
  clear hd hg
  have a0 := HT2.out.blk.cell 0
  have a1 := HT2.out.blk.cell 1
  have a2 := HT2.out.blk.cell 2
  go_wp2_with fail
  with_reducible refine (CO.out _).mono ?_
  rintro e w3 ⟨rfl, hb3⟩
  have HT3 := Lib.hid (HT2.out.step hb3)
  clear hb3 a0 a1 a2 CO
  have HAX := Lib.hid (show V.check o l s 4096 = 0 → ∀ kn : Nat, k = kn → kn < l.length → True from fun _ _ _ _ => trivial)
  by_cases hbad : V.check o l s 4096 ≠ 0 ∨ k < 0 ∨ (l.length : Int) ≤ k
  · obtain ⟨x, hx⟩ : ∃ x, (if V.check o l s 4096 ≠ 0 then V.check o l s 4096 else if k < 0 ∨ (l.length : Int) ≤ k then 10 else 0) = x := ⟨_, rfl⟩
    have hx0 : x ≠ 0 := by
      rw [← hx]
      split
      · assumption
      · rw [if_pos (by omega)]; omega
    have CN1 := Lib.hid (CN.out x hx hx0 w3 HT3.out.low)
    have HX1 := Lib.hid (show V.check o l s 4096 ≠ 0 → x = V.check o l s 4096 from fun h => by rw [← hx, if_pos h])
    have HX2 := Lib.hid (show V.check o l s 4096 = 0 → x = 10 ∧ (k < 0 ∨ (l.length : Int) ≤ k) from fun h => by
      have h2 : k < 0 ∨ (l.length : Int) ≤ k := by omega
      exact ⟨by rw [← hx, if_neg (by omega), if_pos h2], h2⟩)
    clear CN hx hbad CY CB CCE HAX
    generalize V.check o l s 4096 = q at *
    go_wp2_with fail
    with_reducible refine CN1.out.mono ?_
    rintro e w4 ⟨rfl, hb4⟩
    have HT4 := Lib.hid (HT3.out.step hb4)
    clear hb4 CN1
    have HT5 := Lib.hid (HT4.out.step ((Below.refl w4.heap.size w4).alloc (Nat.le_refl _) (.cells noView 49)))
    have HK5 := Lib.hid (Blk.new w4 49 noView)
    have a0 := HT5.out.blk.cell 0
    have a1 := HT5.out.blk.cell 1
    have a2 := HT5.out.blk.cell 2
    go_wp2_with fail
    with_reducible refine (CR.out _ HT5.out.low).mono ?_
    rintro e w6 ⟨rfl, hb6⟩
    have HT6 := Lib.hid (HT5.out.step hb6)
    have HK6 := Lib.hid (HK5.out.below hb6 HK5.out.lt)
    clear hb6 a0 a1 a2
    have k0 := HK6.out.cell 0
    have k1 := HK6.out.cell 1
    have k2 := HK6.out.cell 2
    have a1 := HT6.out.blk.cell 1
    by_cases hq : q = 0
    · subst hq
      obtain ⟨rfl, hk⟩ := HX2.out rfl
      by_cases hk0 : k < 0
      · have hd := decide_eq_true hk0
        clear hk hk0 hx0
        go_wp2_with fail
        with_reducible refine (empty_no _).mono ?_
        rintro e w7 ⟨rfl, hb7⟩
        have HT7 := Lib.hid (HT6.out.step hb7)
        clear hb7
        go_wp2_with fail
        go_ret
        exact ⟨rfl, HT7.out.low⟩
      · have hd := decide_eq_false hk0
        have hd2 : decide ((l.length : Int) ≤ k) = true := by simp; omega
        clear hk hk0 hx0
        go_wp2_with fail
        with_reducible refine (empty_no _).mono ?_
        rintro e w7 ⟨rfl, hb7⟩
        have HT7 := Lib.hid (HT6.out.step hb7)
        clear hb7
        go_wp2_with fail
        go_ret
        exact ⟨rfl, HT7.out.low⟩
    · obtain rfl := HX1.out hq
      have hq1 : (x != 0) = true := by simp [hq]
      have hq2 : (x == 0) = false := by simp [hq]
      clear hq hx0
      go_wp2_with fail
      with_reducible refine (empty_no _).mono ?_
      rintro e w7 ⟨rfl, hb7⟩
      have HT7 := Lib.hid (HT6.out.step hb7)
      clear hb7
      go_wp2_with fail
      go_ret
      exact ⟨rfl, HT7.out.low⟩
  · obtain ⟨kn, rfl⟩ : ∃ kn : Nat, k = (kn : Int) := ⟨k.toNat, by omega⟩
    have hq : V.check o l s 4096 = 0 := by omega
    have hk : kn < l.length := by omega
    have hd : decide ((kn : Int) < 0) = false := by simp
    have hd2 : decide ((l.length : Int) ≤ (kn : Int)) = false := by simp; omega
    have hd2n : decide (l.length ≤ kn) = false := by simp; omega
    rw [hq] at CR
    obtain ⟨hls, hok, _⟩ := V.check_zero hq
    have h4 := hok.1
    have hks : kn < s.length := by omega
    have hp := V.get_le_prod l kn hok.2.1
    have hp1 := hok.2.1 _ (S.getD_mem hk)
    have hle := hok.2.2
    by_cases hg : 0 ≤ fr ∧ fr < l.getD kn 0
    · obtain ⟨hf0, hf1⟩ := hg
      have CY1 := Lib.hid (CY.out hq kn hk hf0 hf1 w3 HT3.out.low)
      have hq' := V.pk_check hq hk hf0 hf1
      have hok' := V.erase_ok hok hk
      have hel := V.erase_length hk
      have hes := V.erase_length hks
      have hl1 : s.length - 1 = l.length - 1 := by omega
      rw [hl1] at hes
      rw [hl1] at CY1
      have hN := sizeN_ok hok'
      have hle' := hok'.2.2
      rw [← hN] at hle'
      have HCL' := Lib.hid (cells_length hq')
      have CS := Lib.hid fun U A1 c1 A2 c2 (h1 : RI .i64 U A1 (l.eraseIdx kn)) (h2 : RI .i64 U A2 (s.eraseIdx kn)) => Cells_any (slO o l s kn fr) A1 A2 c1 c2 (l.eraseIdx kn) (s.eraseIdx kn) U h1 h2 (by omega) (by omega)
      have CK := Lib.hid fun U A1 c1 A2 c2 (h1 : RI .i64 U A1 (l.eraseIdx kn)) (h2 : RI .i64 U A2 (s.eraseIdx kn)) => Check_any (slO o l s kn fr) A1 A2 c1 c2 (l.eraseIdx kn) (s.eraseIdx kn) 4096 U h1 h2 (by omega) (by omega)
      have CAT := Lib.hid fun U A1 c1 (n a b c d : Int) (h1 : RI .i64 U A1 (l.eraseIdx kn)) (hc : (l.eraseIdx kn).length ≤ c1) h0 h1' hx => refAt_any A1 c1 (l.eraseIdx kn) n a b c d U h1 hc hok' h0 h1' hx
      have hs0 := fun U A1 c1 A2 c2 (h1 : RI .i64 U A1 (l.eraseIdx kn)) (h2 : RI .i64 U A2 (l.eraseIdx kn)) => same_any A1 A2 c1 c2 (l.eraseIdx kn) (l.eraseIdx kn) U h1 h2 (by omega)
      simp only [decide_true] at hs0
      have CE := Lib.hid hs0
      rw [hq'] at CK
      rw [hel, hes] at CS CK
      rw [hel] at CAT CE
      have HIX := Lib.hid (show ∀ m, m < sizeN (l.eraseIdx kn) → ∃ a b c d, S.pad (S.atL (l.eraseIdx kn) m) = [a, b, c, d] ∧ (∀ j, 0 ≤ (V.ins kn fr [a, b, c, d]).getD j 0 ∧ (V.ins kn fr [a, b, c, d]).getD j 0 ≤ 4096) ∧ (∀ j, l.length - 1 ≤ j → [a, b, c, d].getD j 0 = 0) ∧
          (V.cells (slO o l s kn fr) (l.eraseIdx kn) (s.eraseIdx kn)).getD m 0 = V.cellR o s (V.ins kn fr [a, b, c, d]) s.length from fun m hm => by
        have hi := V.idx_at hok' hm
        obtain ⟨a, b, c, d, hx⟩ := list_four hi.1
        have ht := V.ins_idx hok hk hf0 hf1 hi.1 hi.2.1
        have hc := V.ins_cell hq hk hf0 hf1 (S.pad (S.atL (l.eraseIdx kn) m))
        have hz := (V.isL_iff (by omega) hok'.2.1 hi.2.1).2
        rw [hel] at hz
        rw [hx] at ht hc hz
        refine ⟨a, b, c, d, hx, fun j => idx_small hok (V.ins_length ..) ht j, hz, ?_⟩
        rw [cells_get hq' hm, ← hc]
        unfold V.cellOf
        rw [hx])
      have CCE' := Lib.hid fun (a b c d : Int) hi U (h : Below w.heap.size w U) => CCE.out a b c d hls.symm h4 hi U h
      have HEL := Lib.hid hel
      have HTD := Lib.hid (show l.take kn ++ l.drop (kn + 1) = l.eraseIdx kn from List.eraseIdx_eq_take_drop_succ .. |>.symm)
      clear hq' hok' hN hq hok hls hbad HAX CY CB CCE hes hs0
      generalize V.cells (slO o l s kn fr) (l.eraseIdx kn) (s.eraseIdx kn) = cl at *
      generalize slO o l s kn fr = o' at *
      generalize s.eraseIdx kn = s' at *
      generalize sizeN (l.eraseIdx kn) = N at *
      generalize l.eraseIdx kn = l' at *
      clear hel hl1
      obtain ⟨L1, hL1⟩ : ∃ L1, l.length - 1 = L1 := ⟨_, rfl⟩
      rw [hL1] at CY1 CS CK CAT CE HEL
      have HIX := Lib.hid HIX.out
      have hL1' : L1 + 1 = l.length := by omega
      have HL1 := Lib.hid hL1
      clear hL1
      have n5 : -9223372036854775808 ≤ (kn : Int) + 1 := by omega
      have n6 : (kn : Int) + 1 ≤ 9223372036854775807 := by omega
      go_wp2_with fail
      with_reducible refine CY1.out.mono ?_
      rintro e w4 ⟨A1, c1, A2, c2, rfl, ho1, ho2, hb4⟩
      have HT4 := Lib.hid (HT3.out.step hb4)
      have HO1 := Lib.hid ho1
      have HO2 := Lib.hid ho2
      have hcap1 := ho1.cap
      rw [HEL.out] at hcap1
      clear hb4 CY1 ho1 ho2
      have HT5 := Lib.hid (HT4.out.step ((Below.refl w4.heap.size w4).alloc (Nat.le_refl _) (.cells (view o' A1 L1 c1 A2 L1 c2) 49)))
      have HK5 := Lib.hid (Blk.new w4 49 (view o' A1 L1 c1 A2 L1 c2))
      have HD5 := Lib.hid ((Below.refl w4.heap.size w4).alloc (Nat.le_refl _) (.cells (view o' A1 L1 c1 A2 L1 c2) 49))
      have a0 := HT5.out.blk.cell 0
      have a1 := HT5.out.blk.cell 1
      have a2 := HT5.out.blk.cell 2
      go_wp2_with fail
      with_reducible refine (CR.out _ HT5.out.low).mono ?_
      rintro e w6 ⟨rfl, hb6⟩
      have HT6 := Lib.hid (HT5.out.step hb6)
      have HK6 := Lib.hid (HK5.out.below hb6 HK5.out.lt)
      have HD6 := Lib.hid (below_then HD5.out HD5.out.size hb6)
      clear hb6 a0 a1 a2 CR HT5 HK5 HD5 HT0 HT1 HT2 HT3 HT4
      have a1 := HT6.out.blk.cell 1
      obtain ⟨ad, hA, hel⟩ := (HR.out _ HT6.out.low).1.at_ hk
      subst hA
      have b1' := HK6.out.cell 1
      have b2' := HK6.out.cell 2
      generalize l.getD kn 0 = n at *
      have hi0 : (0 : Int) ≤ (kn : Int) := by omega
      have hi1 : (kn : Int) < (l.length : Int) := by omega
      have e3 : decide (fr < 0) = false := by simp; omega
      have e4 : decide (n ≤ fr) = false := by simp; omega
      have hkc : (kn : Int) ≤ (cp : Int) := by omega
      have hkl1 : (kn : Int) + 1 ≤ (l.length : Int) := by omega
      obtain ⟨j, hj⟩ : ∃ j : Nat, j = kn + 1 := ⟨_, rfl⟩
      have hwk : IntKind.i64.wrap ((kn : Int) + 1) = (j : Int) := by rw [IntKind.wrap_i64]; omega
      have hj0 : (0 : Int) ≤ (j : Int) := by omega
      have hjl : (j : Int) ≤ (l.length : Int) := by omega
      have hjn : j ≤ l.length := by omega
      have hjc : j ≤ cp := by omega
      obtain ⟨A2', hA2⟩ : ∃ A2', (if cp = j then (some ad : Option Addr) else some (ad.add j)) = some A2' := by split <;> exact ⟨_, rfl⟩
      have hlc : (l.length : Int) ≤ (cp : Int) := by omega
      have htk : (l.take kn).length = kn := by rw [List.length_take]; omega
      have htd : (l.drop j).length = l.length - j := List.length_drop ..
      have HO0 := Lib.hid (show OI .i64 3 (w6.alloc (.cells #[] 3)).drew w6.heap.size (.slice (some ⟨w6.heap.size, 0, none⟩) 0 0) [] from World.ownsRow_made w6 #[] 0 (Nat.le_refl _) (by decide) rfl)
      have HBa := Lib.hid (show Below w6.heap.size w6 (w6.alloc (.cells #[] 3)).drew from ((Below.refl _ _).alloc (Nat.le_refl _) _).drew)
      obtain ⟨v1, W1, hrun1, hx1, hy1⟩ := append_runRI _ w6.heap.size _ [] (l.take kn) ad cp HO0.out ((HR.out _ (below_then HT6.out.low HT6.out.low.size HBa.out)).1.take kn) (by simp; omega) (by simp)
      rw [htk] at hrun1
      rw [List.nil_append] at hx1
      have HBb := Lib.hid (HBa.out.trans hy1)
      have HX1 := Lib.hid hx1
      have hS1 := Lib.hid (And.intro ((HT6.out.blk.below HBb.out HT6.out.blk.lt).cell 1) (And.intro ((HK6.out.below HBb.out HK6.out.lt).cell 1) ((HK6.out.below HBb.out HK6.out.lt).cell 2)))
      have HRD := Lib.hid (show RI .i64 W1 (some A2') (l.drop j) from fun i hi => by
        rw [htd] at hi
        refine ⟨A2', rfl, ?_⟩
        rw [if_neg (by omega)] at hA2
        injection hA2 with hA2
        obtain ⟨ad', he, hcell⟩ := (HR.out _ (below_then HT6.out.low HT6.out.low.size HBb.out)).1 (j + i) (by omega)
        injection he with he
        rw [← hA2, he, Addr.add_add, hcell, List.getD_eq_getElem?_getD, List.getD_eq_getElem?_getD, List.getElem?_drop])
      obtain ⟨v2, W2, hrun2, hx2, hy2⟩ := append_runRI W1 w6.heap.size v1 (l.take kn) (l.drop j) A2' (cp - j) HX1.out HRD.out (by rw [htk, htd]; omega) HBb.out.size
      rw [htd] at hrun2
      rw [hj, HTD.out] at hx2
      have HBc := Lib.hid (HBb.out.trans hy2)
      have HJJ := Lib.hid hj
      obtain ⟨A4, c4, rfl, hr4⟩ := hx2.form
      rw [HEL.out] at hrun2
      have HR4 := Lib.hid hr4
      have hS2 := Lib.hid (And.intro ((HT6.out.blk.below HBc.out HT6.out.blk.lt).cell 1) (And.intro ((HK6.out.below HBc.out HK6.out.lt).cell 1) ((HK6.out.below HBc.out HK6.out.lt).cell 2)))
      clear hx1 hy1 hx2 hy2 hj hr4 hkl1 n5 n6
      go_upto_region 13 with fail
      go_region_held3 (fun w' => w'.cell? ⟨w.heap.size, 1, none⟩ = some (.slice (some ad) l.length cp) ∧ w'.cell? ⟨w4.heap.size, 1, none⟩ = some (.slice A1 L1 c1) ∧ w'.cell? ⟨w4.heap.size, 2, none⟩ = some (.slice A2 L1 c2)) (first | exact hS | exact hS1.out | exact hS2.out | exact ⟨a1, b1', b2'⟩ | go_keep)
        (first
        | (go_at_call 30; refine (CE.out _ _ _ _ _ (HO1.out.ri.below (below_then HD6.out HD6.out.size HBc.out)) HR4.out).mono ?_; rintro e w7 ⟨rfl, hd7⟩; have hBd := Lib.hid (HBc.out.trans (hd7.below _)); have hS := (And.intro ((HT6.out.blk.below hBd.out HT6.out.blk.lt).cell 1) (And.intro ((HK6.out.below hBd.out HK6.out.lt).cell 1) ((HK6.out.below hBd.out HK6.out.lt).cell 2))); clear hd7))
      clear hrun1 hrun2 hwk hA2 hS
      have HTd := Lib.hid (HT6.out.step hBd.out)
      have HKd := Lib.hid (HK6.out.below hBd.out HK6.out.lt)
      have HDd := Lib.hid (below_then HD6.out HD6.out.size hBd.out)
      clear a1 b1' b2' hS1 hS2 HX1 HR4 HRD HO0 HBa HBb HBc hBd HT6 HK6 HD6 hel
      have b0 := HKd.out.cell 0
      have b1' := HKd.out.cell 1
      have b2' := HKd.out.cell 2
      go_wp2_with fail
      with_reducible refine (CS.out _ _ _ _ _ (HO1.out.ri.below HDd.out) (HO2.out.ri.below HDd.out)).mono ?_
      rintro e w8 ⟨v8, rfl, ho8, hb8⟩
      obtain ⟨Ac, cc, rfl, hrc⟩ := ho8.form
      have HRC := Lib.hid hrc
      have HT8 := Lib.hid (HTd.out.step hb8)
      have HK8 := Lib.hid (HKd.out.below hb8 HKd.out.lt)
      have HD8 := Lib.hid (below_then HDd.out HDd.out.size hb8)
      clear hb8 b0 b1' b2' hrc ho8 CS HTd HKd HDd
      rw [HCL'.out]
      go_wp2_with fail
      go_loopw [102] (fun n wr => ∃ m : Nat, m ≤ N ∧ n = .int .i64 m ∧ Hid (Below w8.heap.size w8 wr)) (fun n _ => N - (intOf n).toNat)
      case atStart => exact ⟨0, by omega, rfl, Lib.hid (Below.refl _ _)⟩
      case round =>
        obtain ⟨m, hm', rfl, HBr⟩ := hrel
        have HTr := Lib.hid (HT8.out.step HBr.out)
        have HDr := Lib.hid (below_then HD8.out HD8.out.size HBr.out)
        have b0 := (HK8.out.below HBr.out HK8.out.lt).cell 0
        have b1' := (HK8.out.below HBr.out HK8.out.lt).cell 1
        have b2' := (HK8.out.below HBr.out HK8.out.lt).cell 2
        by_cases hlt : m < N
        · obtain ⟨a, b, c, d, hx, hsm, hz, hcell⟩ := HIX.out m hlt
          obtain ⟨a', b', c', d', hins⟩ := list_four (V.ins_length kn fr [a, b, c, d])
          rw [hins] at hsm hcell
          obtain ⟨qd, hQ, hql⟩ := (HRC.out.below HBr.out).at_ (i := m) (by rw [HCL'.out]; exact hlt)
          subst hQ
          rw [hcell] at hql
          have HINS := Lib.hid hins
          have HZ0 := Lib.hid hz
          have CC1 := Lib.hid fun U h => CCE'.out a' b' c' d' hsm U h
          have CA1 := Lib.hid (CAT.out wr _ c1 m a b c d (HO1.out.ri.below HDr.out) hcap1 (by omega) (by omega) hx)
          have hi0 : (0 : Int) ≤ (m : Int) := by omega
          have hi1 : (m : Int) < (N : Int) := by omega
          clear hx hsm hcell hins hz
          generalize V.cellR o s [a', b', c', d'] s.length = y at *
          go_wp2_with fail
          with_reducible refine CA1.out.mono ?_
          rintro e w9 ⟨rfl, hb9⟩
          have HBa := Lib.hid (below_then HBr.out HBr.out.size hb9)
          have HK9 := Lib.hid ((HK8.out.below HBr.out HK8.out.lt).below hb9 (HK8.out.below HBr.out HK8.out.lt).lt)
          clear hb9 CA1
          go_upto_region 20 with fail
          generalize hW : (w9.alloc (.cells (four a b c d) 32)).alloc (.cells (four 0 0 0 0) 32) = W1
          have HF1 := Lib.hid (show Blk W1 w9.heap.size 32 (four a b c d) from by rw [← hW]; exact (Blk.new w9 32 _).alloc _)
          have HG1 := Lib.hid (show Blk W1 (w9.heap.size + 1) 32 (four 0 0 0 0) from by
            rw [← hW]
            have h := Blk.new (w9.alloc (.cells (four a b c d) 32)) 32 (four 0 0 0 0)
            rw [World.size_alloc] at h
            exact h)
          have HB1 := Lib.hid (show Below w8.heap.size w8 W1 from by rw [← hW]; exact (HBa.out.alloc HBa.out.size _).alloc (by have := HBa.out.size; simp; omega) _)
          have hsz : w8.heap.size ≤ w9.heap.size := HBa.out.size
          have b1w := (HK8.out.below HB1.out HK8.out.lt).cell 1
          clear hW b0 b1' b2' HK9
          have HPZ := Lib.hid (V.insPart_zero kn [a, b, c, d])
          go_wp2_with fail
          go_loopw [114] (fun n wq => ∃ (i : Nat) (p q r u : Int), i ≤ L1 ∧ n = .int .i64 i ∧ Hid ([p, q, r, u] = V.insPart kn i [a, b, c, d]) ∧ Hid (Blk wq (w9.heap.size + 1) 32 (four p q r u)) ∧ Hid (Blk wq w9.heap.size 32 (four a b c d)) ∧ Hid (Below w8.heap.size w8 wq)) (fun n _ => L1 - (intOf n).toNat)
          case atStart => exact ⟨0, 0, 0, 0, 0, by omega, rfl, Lib.hid HPZ.out.symm, HG1, HF1, HB1⟩
          case round =>
            obtain ⟨i, p, q, r, u, hi, rfl, HPP, HGq, HFq, HBq⟩ := hrel
            by_cases hli : i < L1
            · have hil : (i : Int) < (L1 : Int) := by omega
              have hi4 : (i : Int) < 4 := by omega
              have hii : (0 : Int) ≤ (i : Int) := by omega
              have hfk := (HFq.out.cell i).trans (four_get a b c d i (by omega))
              by_cases hik : (i : Int) < (kn : Int)
              · have e5 := decide_eq_true hik
                have e5n : decide (i < kn) = true := by simp; omega
                obtain ⟨p', q', r', u', hset, hlist⟩ := four_set _ p q r u rfl i (by omega) ([a, b, c, d].getD i 0)
                rw [HPP.out, V.insPart_lo [a, b, c, d] (by omega) (by omega)] at hlist
                have hgk := (HGq.out.cell i).trans (four_get p q r u i (by omega))
                have hgf := HGq.out.frozen i
                have HSET := Lib.hid hset
                have HLIST := Lib.hid hlist
                generalize [a, b, c, d].getD i 0 = z at *
                clear hset hlist hik
                go_wp2_with fail
                go_roundw
                case rel => exact ⟨i + 1, p', q', r', u', by omega, by go_num, HLIST, Lib.hid (by rw [← HSET.out]; exact HGq.out.set_ i _), Lib.hid (HFq.out.far (p := ⟨w9.heap.size + 1, i, none⟩) (show w9.heap.size ≠ w9.heap.size + 1 by omega) _), Lib.hid (HBq.out.setCell (p := ⟨w9.heap.size + 1, i, none⟩) (show w8.heap.size ≤ w9.heap.size + 1 by omega) _)⟩
                case measure => simp [intOf]; omega
              · have e5 := decide_eq_false hik
                have e5n : decide (i < kn) = false := by simp; omega
                obtain ⟨i1, hi1'⟩ : ∃ i1, i1 = i + 1 := ⟨_, rfl⟩
                have hlist0 := V.insPart_hi (k := kn) (n := i) [a, b, c, d] (by omega) (by omega)
                rw [← hi1'] at hlist0
                obtain ⟨p', q', r', u', hset, hlist⟩ := four_set _ p q r u rfl i1 (by omega) ([a, b, c, d].getD i 0)
                rw [HPP.out, hlist0] at hlist
                have hgk := (HGq.out.cell i1).trans (four_get p q r u i1 (by omega))
                have hgf := HGq.out.frozen i1
                have HSET := Lib.hid hset
                have HLIST := Lib.hid hlist
                have HI1 := Lib.hid hi1'
                generalize [a, b, c, d].getD i 0 = z at *
                generalize [p, q, r, u].getD i1 0 = z2 at *
                have hi5 : (i1 : Int) < 4 := by omega
                have hi6 : (0 : Int) ≤ (i1 : Int) := by omega
                have hwi : IntKind.i64.wrap ((i : Int) + 1) = (i1 : Int) := by rw [IntKind.wrap_i64]; omega
                clear hset hlist hlist0 hik hi1'
                go_wp2_with fail
                go_roundw
                case rel => exact ⟨i1, p', q', r', u', by have := HI1.out; omega, by have := HI1.out; go_num, HLIST, Lib.hid (by rw [← HSET.out]; exact HGq.out.set_ i1 _), Lib.hid (HFq.out.far (p := ⟨w9.heap.size + 1, i1, none⟩) (show w9.heap.size ≠ w9.heap.size + 1 by omega) _), Lib.hid (HBq.out.setCell (p := ⟨w9.heap.size + 1, i1, none⟩) (show w8.heap.size ≤ w9.heap.size + 1 by omega) _)⟩
                case measure => have := HI1.out; simp [intOf]; omega
            · obtain rfl : i = L1 := by omega
              obtain ⟨p', q', r', u', hset, hlist⟩ := four_set _ p q r u rfl kn (by omega) fr
              rw [HPP.out, V.insPart_end [a, b, c, d] fr (by omega) (by rw [← HL1.out]; exact HZ0.out), HINS.out] at hlist
              injection hlist with q1 q2
              injection q2 with q2 q3
              injection q3 with q3 q4
              injection q4 with q4 q5
              subst q1
              subst q2
              subst q3
              subst q4
              clear q5
              have hgk := (HGq.out.cell kn).trans (four_get p q r u kn (by omega))
              have hgf := HGq.out.frozen kn
              have HSET := Lib.hid hset
              have hk4 : (kn : Int) < 4 := by omega
              clear hset
              go_upto_region 28 with fail
              generalize hW2 : wr.setCell ⟨w9.heap.size + 1, kn, none⟩ (.int .i64 fr) = W2'
              have HG2 := Lib.hid (show Blk W2' (w9.heap.size + 1) 32 (four p' q' r' u') from by rw [← hW2, ← HSET.out]; exact HGq.out.set_ kn _)
              have HB2 := Lib.hid (show Below w8.heap.size w8 W2' from by rw [← hW2]; exact HBq.out.setCell (p := ⟨w9.heap.size + 1, kn, none⟩) (show w8.heap.size ≤ w9.heap.size + 1 by omega) _)
              have HT2 := Lib.hid (HT8.out.step HB2.out)
              clear hW2 hgk hgf
              have a0 := HT2.out.blk.cell 0
              have a1 := HT2.out.blk.cell 1
              have a2 := HT2.out.blk.cell 2
              have x0 := HG2.out.cell 0
              have x1 := HG2.out.cell 1
              have x2 := HG2.out.cell 2
              have x3 := HG2.out.cell 3
              go_wp2_with fail
              with_reducible refine (CC1.out _ HT2.out.low).mono ?_
              rintro e w10 ⟨rfl, hb10⟩
              have HB3 := Lib.hid (below_then HB2.out HB2.out.size hb10)
              clear hb10
              go_wp2_with fail
              go_roundw
              case rel => exact ⟨m + 1, by omega, by go_num, HB3⟩
              case measure => simp [intOf]; omega
        · obtain rfl : m = N := by omega
          go_wp2_with fail
          with_reducible refine (CK.out _ _ _ _ _ (HO1.out.ri.below HDr.out) (HO2.out.ri.below HDr.out)).mono ?_
          rintro e w9 ⟨rfl, hb9⟩
          have HT9 := Lib.hid (HTr.out.step hb9)
          clear hb9
          go_wp2_with fail
          go_ret
          exact ⟨rfl, HT9.out.low⟩
    · have CB1 := Lib.hid (CB.out hq kn hk (by omega) w3 HT3.out.low)
      have HNG := Lib.hid (show fr < 0 ∨ l.getD kn 0 ≤ fr by omega)
      have h1n : l.getD kn 0 ≤ 4096 := by omega
      clear CY CB CCE hg hbad HAX hq hok hls hp hle
      go_wp2_with fail
      with_reducible refine CB1.out.mono ?_
      rintro e w4 ⟨rfl, hb4⟩
      have HT4 := Lib.hid (HT3.out.step hb4)
      clear hb4 CB1
      have HT5 := Lib.hid (HT4.out.step ((Below.refl w4.heap.size w4).alloc (Nat.le_refl _) (.cells noView 49)))
      have HK5 := Lib.hid (Blk.new w4 49 noView)
      have a0 := HT5.out.blk.cell 0
      have a1 := HT5.out.blk.cell 1
      have a2 := HT5.out.blk.cell 2
      go_wp2_with fail
      with_reducible refine (CR.out _ HT5.out.low).mono ?_
      rintro e w6 ⟨rfl, hb6⟩
      have HT6 := Lib.hid (HT5.out.step hb6)
      have HK6 := Lib.hid (HK5.out.below hb6 HK5.out.lt)
      clear hb6 a0 a1 a2
      have k0 := HK6.out.cell 0
      have k1 := HK6.out.cell 1
      have k2 := HK6.out.cell 2
      have a1 := HT6.out.blk.cell 1
      obtain ⟨ad, hA, hel⟩ := (HR.out _ HT6.out.low).1.at_ hk
      subst hA
      have hi0 : (0 : Int) ≤ (kn : Int) := by omega
      have hi1 : (kn : Int) < (l.length : Int) := by omega
      have CEM := Lib.hid ((empty_no w6).mono (R' := fun e U => e = .returned (.bool true) ∧ Below w.heap.size w U) (by
        rintro e U ⟨rfl, hb⟩
        exact ⟨rfl, below_then HT6.out.low HT6.out.low.size hb⟩))
      generalize l.getD kn 0 = n at *
      by_cases c1 : fr < 0
      · have e1 := decide_eq_true c1
        clear c1
        go_wp2_with fail
        with_reducible refine CEM.out.mono ?_
        rintro e w7 ⟨rfl, hb7⟩
        have HB7 := Lib.hid hb7
        clear hb7
        go_wp2_with fail
        go_ret
        exact ⟨rfl, HB7.out⟩
      · have e1 := decide_eq_false c1
        have c2 : n ≤ fr := by have := HNG.out; omega
        have e2 := decide_eq_true c2
        clear c1 c2
        go_wp2_with fail
        with_reducible refine CEM.out.mono ?_
        rintro e w7 ⟨rfl, hb7⟩
        have HB7 := Lib.hid hb7
        clear hb7
        go_wp2_with fail
        go_ret
        exact ⟨rfl, HB7.out⟩
end Go.Proofs.Ytdaajncfhcpecaa
