/- The walks of chapter 8's Meet, the program's: its closure, slices.ContainsFunc over it. No condition. -/
import Derived.Test.YtdaajncfhcpecaaVMeet
namespace Go.Proofs.Ytdaajncfhcpecaa
set_option linter.unusedVariables false
set_option linter.unusedSimpArgs false
open Go Go.RowKit Go.Maps
theorem law3 : Keyed Try.prog 3 := int_keyed Try.underlying3
theorem zero3' (w : World) : (zeroValue 3).run Try.prog w = .ok (.int .i64 0) w := by kernel_rfl
/-- A map of the call's own: which numbers are keys. -/
def SetOf (W : World) (M n : Nat) (l : List Int) : Prop := ∃ D : DataW Unit, W.ownsMap Try.prog 3 (plainElem Try.prog 3) M n D ∧ IsMap D ∧ ∀ x : Int, Maps.has D (.int .i64 x) = decide (x ∈ l)
theorem cells_wf (o : Int) (l s : List Int) : ∀ x ∈ V.cells o l s, (Lit.int .i64 x).wf = true := fun x hx => by
  have hb : 0 ≤ x ∧ x < 4096 := by
    unfold V.cells at hx
    split at hx
    · rename_i hq
      obtain ⟨_, _, _, _, hin, _⟩ := V.check_zero hq
      obtain ⟨n, hn, rfl⟩ := List.mem_map.1 hx
      exact hin n (List.mem_range.1 hn)
    · cases hx
  exact WalkArith.wf_i64 (by omega)
theorem SetOf.below {W W' : World} {M n : Nat} {l : List Int} (h : SetOf W M n l) (hb : Below W.heap.size W W') : SetOf W' M n l := by
  obtain ⟨D, h1, h2, h3⟩ := h
  exact ⟨D, h1.kept (row := none) ⟨hb.os, hb.tape, hb.output, hb.size, fun i hi _ => hb.block i hi⟩ (by simp), h2, h3⟩
theorem closure_any (g M n : Nat) (l : List Int) (x : Int) (w : World) (hg : Blk w g 78 #[.map (some M)]) (hs : SetOf w M n l) (hx : (Lit.int .i64 x).wf = true) :
    Calls Try.prog 51 #[.int .i64 x, .pointer (some ⟨g, 0, none⟩)] w fun e w' => e = .returned (.bool (decide (x ∈ l))) ∧ w = w' := by
  obtain ⟨D, h1, h2, h3⟩ := hs
  have HX := Lib.hid (h3 x)
  have c0 := hg.cell 0
  have hkey : keyOf Try.prog 3 (.int .i64 x) = some (.int .i64 x) := keyOf_int_mk Try.underlying3 hx
  go_enter Try.func51, Try.ntmps51
  go_wp2_with (first
    | (at_lookup; refine wpList_lookup_own_ok_int _ rfl _ _ 78 rfl 3 3 .i64 law3 Try.underlying78 Try.underlying3 (zero3' _) M n D rfl h1 _ _ rfl hkey ?_; intro c hat hwc)
    | fail)
  go_ret
  exact ⟨rfl, rfl⟩
set_option maxHeartbeats 1000000 in
theorem IndexFunc_any (g M n : Nat) (l cb : List Int) (A : Option Addr) (c : Nat) (w : World) (hg : Blk w g 78 #[.map (some M)]) (hs : SetOf w M n l) (hr : RI .i64 w A cb) (hm : cb.length ≤ 9223372036854775807) (hwf : ∀ x ∈ cb, (Lit.int .i64 x).wf = true) :
    Calls Try.prog 55 #[.slice A cb.length c, .func (Fn.func 51) #[] #[.pointer (some ⟨g, 0, none⟩)]] w fun e w' => ∃ r : Int, e = .returned (.int .i64 r) ∧ decide (0 ≤ r) = meetB l cb ∧ w = w' := by
  have CL := Lib.hid fun x (hx : (Lit.int .i64 x).wf = true) => closure_any g M n l x w hg hs hx
  have HR := Lib.hid hr
  have HW := Lib.hid hwf
  have HY := Lib.hid fun (j : Nat) (hj : j < cb.length) (h : cb.getD j 0 ∈ l) => meetB_yes h (getD_mem' hj)
  have HN := Lib.hid (show (∀ j, j < cb.length → cb.getD j 0 ∉ l) → meetB l cb = false from fun h => meetB_no fun x h1 h2 => by
    obtain ⟨j, hj, rfl⟩ := mem_getD h2
    exact h j hj h1)
  generalize meetB l cb = R at *
  clear hg hs hr hwf
  go_enter Try.func55, Try.ntmps55
  go_wp2_with fail
  go_loopw [8] (fun m wr => ∃ j : Nat, j ≤ cb.length ∧ m = .int .i64 j ∧ Hid (∀ t, t < j → cb.getD t 0 ∉ l) ∧ w = wr) (fun m _ => cb.length - (intOf m).toNat)
  case atStart => exact ⟨0, by omega, rfl, Lib.hid (fun t ht => absurd ht (by omega)), rfl⟩
  case round =>
    obtain ⟨j, hj, rfl, HNJ, rfl⟩ := hrel
    by_cases hlt : j < cb.length
    · obtain ⟨bd, rfl, helj⟩ := HR.out.at_ hlt
      have hj0 : (0 : Int) ≤ (j : Int) := by omega
      have hj1 : (j : Int) < (cb.length : Int) := by omega
      have CL1 := Lib.hid (CL.out (cb.getD j 0) (HW.out _ (getD_mem' hlt)))
      have HYJ := Lib.hid (HY.out j hlt)
      have HNJ2 := Lib.hid (show cb.getD j 0 ∉ l → ∀ t, t < j + 1 → cb.getD t 0 ∉ l from fun h t ht => by
        by_cases e : t = j
        · subst e; exact h
        · exact HNJ.out t (by omega))
      generalize cb.getD j 0 = y at *
      by_cases hy : y ∈ l
      · rw [decide_eq_true hy] at CL1
        have HRR := Lib.hid (HYJ.out hy)
        clear hy
        go_wp2_with (go_at_call 51; refine CL1.out.mono ?_; rintro e w' ⟨rfl, rfl⟩)
        go_ret
        exact ⟨_, rfl, by rw [HRR.out]; simp, rfl⟩
      · rw [decide_eq_false hy] at CL1
        have HNK := Lib.hid (HNJ2.out hy)
        clear hy
        go_wp2_with (go_at_call 51; refine CL1.out.mono ?_; rintro e w' ⟨rfl, rfl⟩)
        go_roundw
        case rel => exact ⟨j + 1, by omega, by go_num, HNK, trivial⟩
        case measure => simp [intOf]; omega
    · have HRR := Lib.hid (HN.out fun t ht => HNJ.out t (by omega))
      go_wp2_with fail
      go_ret
      exact ⟨_, rfl, by rw [HRR.out]; simp, rfl⟩
theorem ContainsFunc_any (g M n : Nat) (l cb : List Int) (A : Option Addr) (c : Nat) (w : World) (hg : Blk w g 78 #[.map (some M)]) (hs : SetOf w M n l) (hr : RI .i64 w A cb) (hm : cb.length ≤ 9223372036854775807) (hwf : ∀ x ∈ cb, (Lit.int .i64 x).wf = true) :
    Calls Try.prog 50 #[.slice A cb.length c, .func (Fn.func 51) #[] #[.pointer (some ⟨g, 0, none⟩)]] w fun e w' => e = .returned (.bool (meetB l cb)) ∧ w = w' := by
  have CI := Lib.hid (IndexFunc_any g M n l cb A c w hg hs hr hm hwf)
  generalize meetB l cb = R at *
  clear hg hs hr hwf
  go_enter Try.func50, Try.ntmps50
  go_wp2_with fail
  with_reducible refine CI.out.mono ?_
  rintro e w' ⟨r, rfl, hrr, rfl⟩
  have HRR := Lib.hid hrr
  clear hrr
  go_wp2_with fail
  go_ret
  exact ⟨ret_bool HRR.out, rfl⟩
theorem SetOf.step {ca : List Int} {k : Nat} {D : DataW Unit} (hD : IsMap D) (hh : ∀ x : Int, Maps.has D (.int .i64 x) = decide (x ∈ ca.take k)) (hk : k < ca.length) (d : DataW Unit) :
    IsMap (D.put (.int .i64 (ca.getD k 0)) d) ∧ ∀ x : Int, Maps.has (D.put (.int .i64 (ca.getD k 0)) d) (.int .i64 x) = decide (x ∈ ca.take (k + 1)) := by
  refine ⟨hD.put _ _, fun x => ?_⟩
  have he : ca.take (k + 1) = ca.take k ++ [ca.getD k 0] := by
    rw [List.take_add_one, List.getElem?_eq_getElem hk, List.getD_eq_getElem?_getD, List.getElem?_eq_getElem hk]
    rfl
  rw [he]
  by_cases hx : x = ca.getD k 0
  · subst hx
    rw [has_put_same hD (by simp [WideAt.IsKeyLit])]
    simp
  · rw [has_put_other (by intro e; injection e with _ e; exact hx e), hh x]
    generalize ca.getD k 0 = y at *
    simp [hx]
theorem grown_below {n : Nat} {W U U' : World} {g : Nat} (h : Below n W U) (hn : n ≤ W.heap.size) (hg : U.grownBy U' (some g)) (hng : n ≤ g) : Below n W U' :=
  h.trans ⟨hg.os, hg.tape, hg.output, hg.size, fun i hi => hg.block i (Nat.lt_of_lt_of_le (Nat.lt_of_lt_of_le hi hn) h.size) (fun e => by injection e with e; omega)⟩
theorem Blk.grown {W U : World} {b g : Nat} {t : TypeId} {cs : Array Value} (h : Blk W b t cs) (hg : W.grownBy U (some g)) (hne : b ≠ g) : Blk U b t cs :=
  (hg.block b h.lt (fun e => hne (by injection e))).trans h
set_option maxHeartbeats 2000000 in
theorem Meet_any (o : Int) (A B : Option Addr) (cp cq : Nat) (l s : List Int) (o2 : Int) (A2 B2 : Option Addr) (cp2 cq2 : Nat) (l2 s2 : List Int) (w : World) (hr : RI .i64 w A l) (hs : RI .i64 w B s) (hr2 : RI .i64 w A2 l2) (hs2 : RI .i64 w B2 s2)
    (hm : l.length ≤ 9223372036854775807) (hms : s.length ≤ 9223372036854775807) (hm2 : l2.length ≤ 9223372036854775807) (hms2 : s2.length ≤ 9223372036854775807) :
    Calls Try.prog 39 #[.agg (view o A l.length cp B s.length cq), .agg (view o2 A2 l2.length cp2 B2 s2.length cq2)] w fun e w' => e = .returned (.bool (meetB (V.cells o l s) (V.cells o2 l2 s2))) ∧ Below w.heap.size w w' := by
  have HB0 := Lib.hid (show Below w.heap.size w ((((w.alloc (.cells (view o A l.length cp B s.length cq) 49)).alloc (.cells (view o2 A2 l2.length cp2 B2 s2.length cq2) 49)).alloc (.map #[] 0)).alloc (.cells #[.map (some (w.heap.size + 2))] 78)) from
    ((((Below.refl _ _).alloc (Nat.le_refl _) _).alloc (by simp) _).alloc (by simp; omega) _).alloc (by simp; omega) _)
  have Z0 := ((((Blk.new w 49 (view o A l.length cp B s.length cq)).alloc (.cells (view o2 A2 l2.length cp2 B2 s2.length cq2) 49)).alloc (.map #[] 0)).alloc (.cells #[.map (some (w.heap.size + 2))] 78))
  have Z1 := (((Blk.new (w.alloc (.cells (view o A l.length cp B s.length cq) 49)) 49 (view o2 A2 l2.length cp2 B2 s2.length cq2)).alloc (.map #[] 0)).alloc (.cells #[.map (some (w.heap.size + 2))] 78))
  have Z3 := Blk.new (((w.alloc (.cells (view o A l.length cp B s.length cq) 49)).alloc (.cells (view o2 A2 l2.length cp2 B2 s2.length cq2) 49)).alloc (.map #[] 0)) 78 #[.map (some (w.heap.size + 2))]
  have ZM := (World.ownsMap_made (H := Unit) ((w.alloc (.cells (view o A l.length cp B s.length cq) 49)).alloc (.cells (view o2 A2 l2.length cp2 B2 s2.length cq2) 49)) Try.prog 3 (plainElem Try.prog 3)).alloc (.cells #[.map (some (w.heap.size + 2))] 78)
  simp only [World.size_alloc] at Z1 Z3 ZM
  have HK0 := Lib.hid Z0
  have HK1 := Lib.hid Z1
  have HK3 := Lib.hid Z3
  have HM := Lib.hid ZM
  clear Z0 Z1 Z3 ZM
  have CA := Lib.hid fun U (h : Below w.heap.size w U) => Cells_any o A B cp cq l s U (hr.below h) (hs.below h) hm hms
  have CB := Lib.hid fun U (h : Below w.heap.size w U) => Cells_any o2 A2 B2 cp2 cq2 l2 s2 U (hr2.below h) (hs2.below h) hm2 hms2
  clear hr hs hr2 hs2 hm hms hm2 hms2
  have HWA := Lib.hid (cells_wf o l s)
  have HWB := Lib.hid (cells_wf o2 l2 s2)
  generalize V.cells o l s = ca at *
  generalize V.cells o2 l2 s2 = cb at *
  have k0 := HK0.out.cell 0
  have k1 := HK0.out.cell 1
  have k2 := HK0.out.cell 2
  have hmm := @run_makeMap Try.prog
  go_enter Try.func39, Try.ntmps39
  go_wp2_with fail
  with_reducible refine (CA.out _ HB0.out).mono ?_
  rintro e w1 ⟨v1, rfl, ho1, hb1⟩
  obtain ⟨Ac, cc, rfl, hrc⟩ := ho1.form
  have hca : ca.length ≤ 9223372036854775807 := Nat.le_trans ho1.len (by decide)
  have HO1 := Lib.hid ho1
  have HJ0 := Lib.hid (HK0.out.below hb1 HK0.out.lt)
  have HJ1 := Lib.hid (HK1.out.below hb1 HK1.out.lt)
  have HJ3 := Lib.hid (HK3.out.below hb1 HK3.out.lt)
  have HMM := Lib.hid (HM.out.kept (w' := w1) (row := none) ⟨hb1.os, hb1.tape, hb1.output, hb1.size, fun i hi _ => hb1.block i hi⟩ (by simp))
  have HB1 := Lib.hid (below_then HB0.out HB0.out.size hb1)
  clear hb1 hrc ho1 k0 k1 k2 CA
  go_wp2_with fail
  go_loopw [12] (fun n wr => ∃ k : Nat, k ≤ ca.length ∧ n = .int .i64 k ∧ Hid (SetOf wr (w.heap.size + 2) k (ca.take k)) ∧ Hid (OI .i64 3 wr (w.heap.size + 4) (.slice Ac ca.length cc) ca) ∧ Hid (Blk wr (w.heap.size + 3) 78 #[.map (some (w.heap.size + 2))]) ∧
    Hid (Blk wr (w.heap.size + 1) 49 (view o2 A2 l2.length cp2 B2 s2.length cq2)) ∧ Hid (Below w.heap.size w wr)) (fun n _ => ca.length - (intOf n).toNat)
  case atStart => exact ⟨0, by omega, rfl, Lib.hid ⟨_, HMM.out, isMap_empty, fun x => by simp [Maps.has]⟩, Lib.hid (by have := HO1.out; simpa using this), HJ3, HJ1, HB1⟩
  case round =>
    obtain ⟨k, hk, rfl, HSS, HOr, HVr, HBr, HLr⟩ := hrel
    have v0 := HVr.out.cell 0
    by_cases hlt : k < ca.length
    · obtain ⟨ad, hA, hel⟩ := HOr.out.ri.at_ hlt
      obtain ⟨D, hown, hD, hh⟩ := HSS.out
      have hwf := HWA.out _ (getD_mem' hlt)
      have hkey : keyOf Try.prog 3 (.int .i64 (ca.getD k 0)) = some (.int .i64 (ca.getD k 0)) := keyOf_int_mk Try.underlying3 hwf
      have hwk : (Lit.int .i64 (k : Int)).wf = true := WalkArith.wf_i64 (by omega)
      have HSTEP := Lib.hid (SetOf.step hD hh hlt (.lit (.int .i64 (k : Int))))
      have HOWN := Lib.hid hown
      have HWK := Lib.hid hwk
      have HKEY := Lib.hid hkey
      subst hA
      generalize ca.getD k 0 = x at *
      have hi0 : (0 : Int) ≤ (k : Int) := by omega
      have hi1 : (k : Int) < (ca.length : Int) := by omega
      clear hh hD hwf hown hwk hkey
      go_wp2_with (first
        | (at_mapUpdate; refine wpList_mapUpdate_own _ rfl _ _ _ 78 rfl 3 3 law3 Try.underlying78 (plainElem Try.prog 3) (w.heap.size + 2) k D rfl HOWN.out (by unfold maxLen; omega) _ _ _ rfl rfl HKEY.out _ [] (plainElem_int Try.underlying3 HWK.out) ?_; intro w2 hown1 hgrow1)
        | fail)
      go_roundw
      case rel =>
        exact ⟨k + 1, by omega, by go_num, Lib.hid ⟨_, hown1, HSTEP.out.1, HSTEP.out.2⟩, Lib.hid (OI.kept HOr.out hgrow1 (fun g hg e => by injection e with e; have := (HOr.out.lt g hg).1; omega)), Lib.hid (HVr.out.grown hgrow1 (by omega)), Lib.hid (HBr.out.grown hgrow1 (by omega)), Lib.hid (grown_below HLr.out (Nat.le_refl _) hgrow1 (by omega))⟩
      case measure => simp [intOf]; omega
    · obtain rfl : k = ca.length := by omega
      have hss := HSS.out
      rw [List.take_length] at hss
      have HSE := Lib.hid hss
      have b0 := HBr.out.cell 0
      have b1 := HBr.out.cell 1
      have b2 := HBr.out.cell 2
      clear hss v0
      go_wp2_with fail
      with_reducible refine (CB.out _ HLr.out).mono ?_
      rintro e w2 ⟨v2, rfl, ho2, hb2⟩
      obtain ⟨Ad, cd, rfl, hrd⟩ := ho2.form
      have HRD := Lib.hid hrd
      have hcb : cb.length ≤ 9223372036854775807 := Nat.le_trans ho2.len (by decide)
      have HS2 := Lib.hid (HSE.out.below hb2)
      have HV2 := Lib.hid (HVr.out.below hb2 HVr.out.lt)
      have HL2 := Lib.hid (below_then HLr.out HLr.out.size hb2)
      clear hb2 hrd ho2 b0 b1 b2
      go_wp2_with fail
      refine (ContainsFunc_any (w.heap.size + 3) (w.heap.size + 2) _ ca cb Ad cd w2 HV2.out HS2.out HRD.out hcb HWB.out).mono ?_
      rintro e w' ⟨rfl, rfl⟩
      go_wp2_with fail
      go_ret
      exact ⟨rfl, HL2.out⟩
end Go.Proofs.Ytdaajncfhcpecaa
