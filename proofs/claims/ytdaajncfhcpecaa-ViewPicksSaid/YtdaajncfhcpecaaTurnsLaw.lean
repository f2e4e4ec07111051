/- The walk of the law ViewTurns. No condition. -/
import Derived.Test.YtdaajncfhcpecaaVIdx
import Derived.Test.YtdaajncfhcpecaaPermutesLaw
import Derived.Test.YtdaajncfhcpecaaRefAt
namespace Go.Proofs.Ytdaajncfhcpecaa
set_option linter.unusedVariables false
set_option linter.unusedSimpArgs false
open Go.RowKit
theorem revO_back (o : Int) (l s : List Int) {k : Nat} (hk : k < s.length) : revO (revO o l s k) l (revS l s k) k = o := by
  unfold revO revS
  by_cases h : 1 < l.getD k 0
  · rw [if_pos h, if_pos h, if_pos h, V.getD_set_self hk, Int.mul_neg]; omega
  · rw [if_neg h, if_neg h]
theorem revS_back (l s : List Int) {k : Nat} (hk : k < s.length) : revS l (revS l s k) k = s := by
  unfold revS
  by_cases h : 1 < l.getD k 0
  · rw [if_pos h, if_pos h, V.getD_set_self hk, List.set_set, Int.neg_neg]
    apply List.ext_getElem (by simp)
    intro m h1 h2
    rw [List.getElem_set]
    split
    · rename_i e; subst e; rw [List.getD_eq_getElem?_getD, List.getElem?_eq_getElem h2]; rfl
    · rfl
  · rw [if_neg h, if_neg h]
theorem revS_length (l s : List Int) (k : Nat) : (revS l s k).length = s.length := by unfold revS; split <;> simp
/-- What a view's cells are, where it can be. -/
theorem cells_length {o : Int} {l s : List Int} (hq : V.check o l s 4096 = 0) : (V.cells o l s).length = sizeN l := by unfold V.cells; rw [if_pos hq]; simp
theorem cells_get {o : Int} {l s : List Int} (hq : V.check o l s 4096 = 0) {m : Nat} (hm : m < sizeN l) : (V.cells o l s).getD m 0 = V.cellOf o l s m := by
  unfold V.cells
  rw [if_pos hq]
  simp [List.getD_eq_getElem?_getD, hm]
theorem idx_small {l i : List Int} (hok : S.Ok l) (h4 : i.length = 4) (hi : S.isL l i = true) (k : Nat) : 0 ≤ i.getD k 0 ∧ i.getD k 0 ≤ 4096 := by
  have hg := V.isL_get l i hi k
  have hp := V.get_le_prod l k hok.2.1
  have hle := hok.2.2
  omega
set_option maxHeartbeats 4000000 in
theorem turns_law (o : Int) (A B : Option Addr) (cp cq : Nat) (l s : List Int) (k : Int) (w : World) (hr : RI .i64 w A l) (hs : RI .i64 w B s) (hnA : A = none → l.length = 0 ∧ cp = 0) (hnB : B = none → s.length = 0 ∧ cq = 0) (hcap : l.length ≤ cp) (hm : l.length ≤ 9223372036854775807) (hms : s.length ≤ 9223372036854775807) :
    Calls Try.prog 10 #[.agg (view o A l.length cp B s.length cq), .int .i64 k] w fun e w' => e = .returned (.bool true) ∧ Below w.heap.size w w' := by
  have HT0 := Lib.hid (St.new w 47 (view o A l.length cp B s.length cq))
  have HR := Lib.hid fun U (h : Below w.heap.size w U) => And.intro (hr.below h) (hs.below h)
  have CN := Lib.hid fun x (hx : (if V.check o l s 4096 ≠ 0 then V.check o l s 4096 else if k < 0 ∨ (l.length : Int) ≤ k then 10 else 0) = x) (hx0 : x ≠ 0) U (h : Below w.heap.size w U) => Rev_no o A B cp cq l s k U (hr.below h) (hs.below h) hm hms x hx hx0
  have CY := Lib.hid fun (hq : V.check o l s 4096 = 0) (kn : Nat) (hk : kn < l.length) U (h : Below w.heap.size w U) => Rev_yes o A B cp cq l s kn U (hr.below h) (hs.below h) hnA hnB hq hk
  have CR := Lib.hid fun U (h : Below w.heap.size w U) => refCheck_any o A B cp cq l s 4096 U (hr.below h) (hs.below h) hcap hm hms
  have CO := Lib.hid fun U => of_any o A B l.length cp s.length cq U
  have CG := Lib.hid fun U => great_any o A B l.length cp s.length cq U
  have CD := Lib.hid fun U (h : Below w.heap.size w U) => refCells_any o A B cp cq l s U (hr.below h) (hs.below h) hcap hm hms
  have CAT := Lib.hid fun (hok : S.Ok l) (n : Int) (a b c d : Int) U (h : Below w.heap.size w U) h0 h1 hx => refAt_any A cp l n a b c d U (hr.below h) hcap hok h0 h1 hx
  have CCE := Lib.hid fun (a b c d : Int) (hls : s.length = l.length) (h4 : l.length ≤ 4) hi U (h : Below w.heap.size w U) => Cell_any o A B cp cq l s a b c d U (hs.below h) hls h4 hi
  clear hnA hnB hr hs
  go_enter Try.func10, Try.ntmps10
  go_wp2_with fail
  with_reducible refine (alive8_any _).mono ?_
  rintro e w1 ⟨rfl, hb1⟩
  have HT1 := Lib.hid (HT0.out.step hb1)
  clear hb1
  have a0 := HT1.out.blk.cell 0
  have a1 := HT1.out.blk.cell 1
  have a2 := HT1.out.blk.cell 2
  go_wp2_with fail
  with_reducible refine (CG.out _).mono ?_
  rintro e w2 ⟨rfl, hb2⟩
  have HT2 := Lib.hid (HT1.out.step hb2)
  clear hb2 a0 a1 a2 CG
  by_cases hg : 20 < l.length ∨ 20 < s.length
  · have hd := decide_eq_true hg
    rw [hd]
    clear hd hg
    go_wp2_with fail
    go_ret
    exact ⟨rfl, HT2.out.low⟩
  have hd := decide_eq_false hg
  rw [hd]
  clear hd hg
  have a0 := HT2.out.blk.cell 0
  have a1 := HT2.out.blk.cell 1
  have a2 := HT2.out.blk.cell 2
  go_wp2_with fail
  with_reducible refine (CO.out _).mono ?_
  rintro e w3 ⟨rfl, hb3⟩
  have HT3 := Lib.hid (HT2.out.step hb3)
  clear hb3 a0 a1 a2 CO
  have HAX := Lib.hid (show V.check o l s 4096 = 0 → ∀ kn : Nat, k = kn → kn < l.length → True from fun _ _ _ _ => trivial)
  by_cases hbad : V.check o l s 4096 ≠ 0 ∨ k < 0 ∨ (l.length : Int) ≤ k
  · obtain ⟨x, hx⟩ : ∃ x, (if V.check o l s 4096 ≠ 0 then V.check o l s 4096 else if k < 0 ∨ (l.length : Int) ≤ k then 10 else 0) = x := ⟨_, rfl⟩
    have hx0 : x ≠ 0 := by
      rw [← hx]
      split
      · assumption
      · rw [if_pos (by omega)]; omega
    have CN1 := Lib.hid (CN.out x hx hx0 w3 HT3.out.low)
    have HX1 := Lib.hid (show V.check o l s 4096 ≠ 0 → x = V.check o l s 4096 from fun h => by rw [← hx, if_pos h])
    have HX2 := Lib.hid (show V.check o l s 4096 = 0 → x = 10 ∧ (k < 0 ∨ (l.length : Int) ≤ k) from fun h => by
      have h2 : k < 0 ∨ (l.length : Int) ≤ k := by omega
      exact ⟨by rw [← hx, if_neg (by omega), if_pos h2], h2⟩)
    clear CN hx hbad CY CD CAT CCE HAX
    generalize V.check o l s 4096 = q at *
    go_wp2_with fail
    with_reducible refine CN1.out.mono ?_
    rintro e w4 ⟨rfl, hb4⟩
    have HT4 := Lib.hid (HT3.out.step hb4)
    clear hb4 CN1
    have HT5 := Lib.hid (HT4.out.step ((Below.refl w4.heap.size w4).alloc (Nat.le_refl _) (.cells noView 49)))
    have HK5 := Lib.hid (Blk.new w4 49 noView)
    have a0 := HT5.out.blk.cell 0
    have a1 := HT5.out.blk.cell 1
    have a2 := HT5.out.blk.cell 2
    go_wp2_with fail
    with_reducible refine (CR.out _ HT5.out.low).mono ?_
    rintro e w6 ⟨rfl, hb6⟩
    have HT6 := Lib.hid (HT5.out.step hb6)
    have HK6 := Lib.hid (HK5.out.below hb6 HK5.out.lt)
    clear hb6 a0 a1 a2
    have k0 := HK6.out.cell 0
    have k1 := HK6.out.cell 1
    have k2 := HK6.out.cell 2
    have a1 := HT6.out.blk.cell 1
    by_cases hq : q = 0
    · subst hq
      obtain ⟨rfl, hk⟩ := HX2.out rfl
      by_cases hk0 : k < 0
      · have hd := decide_eq_true hk0
        clear hk hk0 hx0
        go_wp2_with fail
        with_reducible refine (empty_no _).mono ?_
        rintro e w7 ⟨rfl, hb7⟩
        have HT7 := Lib.hid (HT6.out.step hb7)
        clear hb7
        go_wp2_with fail
        go_ret
        exact ⟨rfl, HT7.out.low⟩
      · have hd := decide_eq_false hk0
        have hd2 : decide ((l.length : Int) ≤ k) = true := by simp; omega
        clear hk hk0 hx0
        go_wp2_with fail
        with_reducible refine (empty_no _).mono ?_
        rintro e w7 ⟨rfl, hb7⟩
        have HT7 := Lib.hid (HT6.out.step hb7)
        clear hb7
        go_wp2_with fail
        go_ret
        exact ⟨rfl, HT7.out.low⟩
    · obtain rfl := HX1.out hq
      have hq1 : (x != 0) = true := by simp [hq]
      have hq2 : (x == 0) = false := by simp [hq]
      clear hq hx0
      go_wp2_with fail
      with_reducible refine (empty_no _).mono ?_
      rintro e w7 ⟨rfl, hb7⟩
      have HT7 := Lib.hid (HT6.out.step hb7)
      clear hb7
      go_wp2_with fail
      go_ret
      exact ⟨rfl, HT7.out.low⟩
  · obtain ⟨kn, rfl⟩ : ∃ kn : Nat, k = (kn : Int) := ⟨k.toNat, by omega⟩
    have hq : V.check o l s 4096 = 0 := by omega
    have hk : kn < l.length := by omega
    have CY1 := Lib.hid (CY.out hq kn hk w3 HT3.out.low)
    rw [hq] at CR
    obtain ⟨hls, hok, _⟩ := V.check_zero hq
    have h4 := hok.1
    have hks : kn < s.length := by omega
    have hq' := V.rev_check hq hk
    have hsl := revS_length l s kn
    have hN := sizeN_ok hok
    have hle := hok.2.2
    rw [← hN] at hle
    have HCL := Lib.hid (cells_length hq)
    have HCL' := Lib.hid (cells_length hq')
    have CS := Lib.hid fun U A1 c1 A2 c2 (h1 : RI .i64 U A1 l) (h2 : RI .i64 U A2 (revS l s kn)) => Cells_any (revO o l s kn) A1 A2 c1 c2 l (revS l s kn) U h1 h2 (by omega) (by omega)
    have CB := Lib.hid fun U A1 c1 A2 c2 (h1 : RI .i64 U A1 l) (h2 : RI .i64 U A2 (revS l s kn)) hn1 hn2 => Rev_yes (revO o l s kn) A1 A2 c1 c2 l (revS l s kn) kn U h1 h2 hn1 hn2 hq' hk
    rw [revO_back o l s hks, revS_back l s hks] at CB
    rw [hsl] at CS CB
    -- (each round: the index, turned, and its cell)
    have HIX := Lib.hid (show ∀ m, m < sizeN l → ∃ a b c d a' b' c' d', S.pad (S.atL l m) = [a, b, c, d] ∧ (four a b c d).setIfInBounds kn (.int .i64 (l.getD kn 0 - 1 - [a, b, c, d].getD kn 0)) = four a' b' c' d' ∧
        (∀ j, 0 ≤ [a', b', c', d'].getD j 0 ∧ [a', b', c', d'].getD j 0 ≤ 4096) ∧ 0 ≤ [a, b, c, d].getD kn 0 ∧ [a, b, c, d].getD kn 0 < l.getD kn 0 ∧ l.getD kn 0 ≤ 4096 ∧ (V.cells (revO o l s kn) l (revS l s kn)).getD m 0 = V.cellR o s [a', b', c', d'] s.length from fun m hm => by
      have hi := V.idx_at hok hm
      obtain ⟨a, b, c, d, hx⟩ := list_four hi.1
      obtain ⟨a', b', c', d', h1, h2⟩ := four_set _ a b c d rfl kn (by omega) (l.getD kn 0 - 1 - [a, b, c, d].getD kn 0)
      have ht := V.turn_idx hok hk hi.1 hi.2.1
      have hc := V.turn_cell hq hk hi.1 hi.2.1
      have hb := V.isL_iff (by omega) hok.2.1 hi.2.1
      have hbk := hb.1 kn hk
      have hp := V.get_le_prod l kn hok.2.1
      rw [hx] at ht hc hbk
      unfold V.turn at ht hc
      rw [← h2] at ht hc
      refine ⟨a, b, c, d, a', b', c', d', hx, h1, fun j => idx_small hok ht.1 ht.2.1 j, hbk.1, hbk.2, by omega, ?_⟩
      rw [cells_get hq' hm, ← hc]
      unfold V.cellOf
      rw [hx])
    have hs0 := fun (A1 A2 : Option Addr) (c1 c2 : Nat) (U : World) (h1 : RI .i64 U A1 l) (h2 : RI .i64 U A2 l) => same_any A1 A2 c1 c2 l l U h1 h2 hm
    have hs1 := fun (A1 A2 : Option Addr) (c1 c2 : Nat) (U : World) (h1 : RI .i64 U A1 s) (h2 : RI .i64 U A2 s) => same_any A1 A2 c1 c2 s s U h1 h2 hms
    simp only [decide_true] at hs0 hs1
    have CE := Lib.hid hs0
    have CF := Lib.hid hs1
    have CAT' := Lib.hid fun (n : Int) (a b c d : Int) U (h : Below w.heap.size w U) h0 h1 hx => CAT.out hok n a b c d U h h0 h1 hx
    have CCE' := Lib.hid fun (a b c d : Int) hi U (h : Below w.heap.size w U) => CCE.out a b c d hls.symm h4 hi U h
    have HLS := Lib.hid hls
    clear hs0 hs1 CAT CCE CY CN hbad HAX hls hN
    have HQL := Lib.hid hsl
    clear hsl hq hq' hok
    generalize V.cells (revO o l s kn) l (revS l s kn) = cl at *
    generalize V.cells o l s = cl0 at *
    generalize revO o l s kn = o' at *
    generalize revS l s kn = s' at *
    generalize sizeN l = N at *
    have hd : decide ((kn : Int) < 0) = false := by simp
    have hd2 : decide ((l.length : Int) ≤ (kn : Int)) = false := by simp; omega
    go_wp2_with fail
    with_reducible refine CY1.out.mono ?_
    rintro e w4 ⟨A1, c1, A2, c2, rfl, ho1, ho2, hb4⟩
    have HT4 := Lib.hid (HT3.out.step hb4)
    have HO1 := Lib.hid ho1
    have HO2 := Lib.hid ho2
    clear hb4 CY1 ho1 ho2
    have HT5 := Lib.hid (HT4.out.step ((Below.refl w4.heap.size w4).alloc (Nat.le_refl _) (.cells (view o' A1 l.length c1 A2 s.length c2) 49)))
    have HK5 := Lib.hid (Blk.new w4 49 (view o' A1 l.length c1 A2 s.length c2))
    have HD5 := Lib.hid ((Below.refl w4.heap.size w4).alloc (Nat.le_refl _) (.cells (view o' A1 l.length c1 A2 s.length c2) 49))
    have a0 := HT5.out.blk.cell 0
    have a1 := HT5.out.blk.cell 1
    have a2 := HT5.out.blk.cell 2
    go_wp2_with fail
    with_reducible refine (CR.out _ HT5.out.low).mono ?_
    rintro e w6 ⟨rfl, hb6⟩
    have HT6 := Lib.hid (HT5.out.step hb6)
    have HK6 := Lib.hid (HK5.out.below hb6 HK5.out.lt)
    have HD6 := Lib.hid (below_then HD5.out HD5.out.size hb6)
    clear hb6 a0 a1 a2 CR HT5 HK5 HD5 HT0 HT1 HT2 HT3 HT4
    have a1 := HT6.out.blk.cell 1
    have b1 := HK6.out.cell 1
    go_wp2_with fail
    with_reducible refine (CE.out _ _ _ _ _ (HO1.out.ri.below HD6.out) (HR.out _ HT6.out.low).1).mono ?_
    rintro e w7 ⟨rfl, hd7⟩
    have HT7 := Lib.hid (HT6.out.step (hd7.below _))
    have HK7 := Lib.hid (HK6.out.below (hd7.below _) HK6.out.lt)
    have HD7 := Lib.hid (HD6.out.trans (hd7.below _))
    clear hd7 a1 b1 HT6 HK6 HD6
    have b0 := HK7.out.cell 0
    have b1 := HK7.out.cell 1
    have b2 := HK7.out.cell 2
    go_wp2_with fail
    with_reducible refine (CS.out _ _ _ _ _ (HO1.out.ri.below HD7.out) (HO2.out.ri.below HD7.out)).mono ?_
    rintro e w8 ⟨v8, rfl, ho8, hb8⟩
    obtain ⟨Ac, cc, rfl, hrc⟩ := ho8.form
    have HRC := Lib.hid hrc
    have HT8 := Lib.hid (HT7.out.step hb8)
    have HK8 := Lib.hid (HK7.out.below hb8 HK7.out.lt)
    have HD8 := Lib.hid (below_then HD7.out HD7.out.size hb8)
    clear hb8 b0 b1 b2 hrc ho8 CS HT7 HK7 HD7
    rw [HCL'.out]
    go_wp2_with fail
    go_loopw [65] (fun n wr => ∃ m : Nat, m ≤ N ∧ n = .int .i64 m ∧ Hid (Below w8.heap.size w8 wr)) (fun n _ => N - (intOf n).toNat)
    case atStart => exact ⟨0, by omega, rfl, Lib.hid (Below.refl _ _)⟩
    case round =>
      obtain ⟨m, hm', rfl, HBr⟩ := hrel
      have HTr := Lib.hid (HT8.out.step HBr.out)
      have a0 := HTr.out.blk.cell 0
      have a1 := HTr.out.blk.cell 1
      have a2 := HTr.out.blk.cell 2
      by_cases hlt : m < N
      · obtain ⟨a, b, c, d, a', b', c', d', hx, hset, hsm, hx0, hx1, hx2, hcell⟩ := HIX.out m hlt
        obtain ⟨ad, rfl, hel⟩ := (HRC.out.below HBr.out).at_ (i := m) (by rw [HCL'.out]; exact hlt)
        rw [hcell] at hel
        have CC1 := Lib.hid fun U h => CCE'.out a' b' c' d' hsm U h
        have CA1 := Lib.hid (CAT'.out m a b c d wr HTr.out.low (by omega) (by omega) hx)
        have hi0 : (0 : Int) ≤ (m : Int) := by omega
        have hi1 : (m : Int) < (N : Int) := by omega
        clear hx hsm hcell
        generalize V.cellR o s [a', b', c', d'] s.length = y at *
        go_wp2_with fail
        with_reducible refine CA1.out.mono ?_
        rintro e w9 ⟨rfl, hb9⟩
        have HBa := Lib.hid (below_then HBr.out HBr.out.size hb9)
        clear hb9 CA1
        go_upto_region 18 with fail
        generalize hW : w9.alloc (.cells (four a b c d) 32) = W1
        have HF1 := Lib.hid (show Blk W1 w9.heap.size 32 (four a b c d) from by rw [← hW]; exact Blk.new _ _ _)
        have HB1 := Lib.hid (show Below w8.heap.size w8 W1 from by rw [← hW]; exact HBa.out.alloc HBa.out.size _)
        have hsz : w8.heap.size ≤ w9.heap.size := HBa.out.size
        clear hW
        have HTw := Lib.hid (HT8.out.step HB1.out)
        have a1 := HTw.out.blk.cell 1
        obtain ⟨ld, hA, hlc⟩ := (HR.out _ HTw.out.low).1.at_ hk
        subst hA
        have hfk := (HF1.out.cell kn).trans (four_get a b c d kn (by omega))
        have hff := HF1.out.frozen kn
        have HSET := Lib.hid hset
        generalize hxx : l.getD kn 0 = x at *
        generalize [a, b, c, d].getD kn 0 = z at *
        have HXX := Lib.hid hxx
        have m1 : -9223372036854775808 ≤ x - 1 := by omega
        have m2 : x - 1 ≤ 9223372036854775807 := by omega
        have m3 : -9223372036854775808 ≤ x - 1 - z := by omega
        have m4 : x - 1 - z ≤ 9223372036854775807 := by omega
        have hk0 : (0 : Int) ≤ (kn : Int) := by omega
        have hk1 : (kn : Int) < (l.length : Int) := by omega
        have hk4 : (kn : Int) < 4 := by omega
        clear hset hxx hx0 hx1 hx2
        go_still_tail 12, (by kernel_rfl)
        change wpList _ _ _ _ _ W1.drew
        go_upto_region 19 with fail
        generalize hW2 : (W1.setCell ⟨w9.heap.size, kn, none⟩ (.int .i64 (x - 1 - z))).drew = W2
        have HF2 := Lib.hid (show Blk W2 w9.heap.size 32 (four a' b' c' d') from by
          rw [← hW2, ← HSET.out]
          exact HF1.out.set_ kn _)
        have HB2 := Lib.hid (show Below w8.heap.size w8 W2 from by rw [← hW2]; exact (HB1.out.setCell (p := ⟨w9.heap.size, kn, none⟩) hsz _).drew)
        have HT2 := Lib.hid (HT8.out.step HB2.out)
        clear hW2 m1 m2 m3 m4 hfk hff a1 a0 a2
        have a0 := HT2.out.blk.cell 0
        have a1 := HT2.out.blk.cell 1
        have a2 := HT2.out.blk.cell 2
        have x0 := HF2.out.cell 0
        have x1 := HF2.out.cell 1
        have x2 := HF2.out.cell 2
        have x3 := HF2.out.cell 3
        go_wp2_with fail
        with_reducible refine (CC1.out _ HT2.out.low).mono ?_
        rintro e w10 ⟨rfl, hb10⟩
        have HB3 := Lib.hid (below_then HB2.out HB2.out.size hb10)
        clear hb10
        go_wp2_with fail
        go_roundw
        case rel => exact ⟨m + 1, by omega, by go_num, HB3⟩
        case measure => simp [intOf]; omega
      · have b0 := (HK8.out.below HBr.out HK8.out.lt).cell 0
        have b1 := (HK8.out.below HBr.out HK8.out.lt).cell 1
        have b2 := (HK8.out.below HBr.out HK8.out.lt).cell 2
        have HDr := Lib.hid (below_then HD8.out HD8.out.size HBr.out)
        obtain rfl : m = N := by omega
        go_wp2_with fail
        with_reducible refine (CB.out _ _ _ _ _ (HO1.out.ri.below HDr.out) (HO2.out.ri.below HDr.out) HO1.out.nilForm HO2.out.nilForm).mono ?_
        rintro e w9 ⟨A3, c3, A4, c4, rfl, ho3, ho4, hb9⟩
        have HR3 := Lib.hid ho3.ri
        have HR4 := Lib.hid ho4.ri
        have HT9 := Lib.hid (HTr.out.step hb9)
        clear hb9 ho3 ho4 CB
        have HTa := Lib.hid (HT9.out.step ((Below.refl w9.heap.size w9).alloc (Nat.le_refl _) (.cells (view o A3 l.length c3 A4 s.length c4) 49)))
        have HKa := Lib.hid (Blk.new w9 49 (view o A3 l.length c3 A4 s.length c4))
        have HDa := Lib.hid ((Below.refl w9.heap.size w9).alloc (Nat.le_refl _) (.cells (view o A3 l.length c3 A4 s.length c4) 49))
        clear a0 a1 a2 b0 b1 b2
        have a0 := HTa.out.blk.cell 0
        have a1 := HTa.out.blk.cell 1
        have a2 := HTa.out.blk.cell 2
        go_wp2_with fail
        with_reducible refine (CD.out _ HTa.out.low).mono ?_
        rintro e wb ⟨vb, rfl, hob, hbb⟩
        obtain ⟨Ab, cb, rfl, _⟩ := hob.form
        rw [HCL.out]
        have HTb := Lib.hid (HTa.out.step hbb)
        have HKb := Lib.hid (HKa.out.below hbb HKa.out.lt)
        have HDb := Lib.hid (below_then HDa.out HDa.out.size hbb)
        clear hbb hob a0 a1 a2
        have a0 := HTb.out.blk.cell 0
        have a1 := HTb.out.blk.cell 1
        have b0 := HKb.out.cell 0
        have b1 := HKb.out.cell 1
        go_wp2_with fail
        with_reducible refine (CE.out _ _ _ _ _ (HR3.out.below HDb.out) (HR.out _ HTb.out.low).1).mono ?_
        rintro e wc ⟨rfl, hdc⟩
        have HTc := Lib.hid (HTb.out.step (hdc.below _))
        have HKc := Lib.hid (HKb.out.below (hdc.below _) HKb.out.lt)
        have HDc := Lib.hid (HDb.out.trans (hdc.below _))
        clear hdc a0 a1 b0 b1
        have a2 := HTc.out.blk.cell 2
        have b2 := HKc.out.cell 2
        go_wp2_with fail
        with_reducible refine (CF.out _ _ _ _ _ (HR4.out.below HDc.out) (HR.out _ HTc.out.low).2).mono ?_
        rintro e wd ⟨rfl, hdd⟩
        have HTd := Lib.hid (HTc.out.step (hdd.below _))
        clear hdd
        go_wp2_with fail
        go_ret
        exact ⟨rfl, HTd.out.low⟩
end Go.Proofs.Ytdaajncfhcpecaa
