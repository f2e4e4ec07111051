/- The walk of chapter 8's Permute, over so many axes. No condition. -/
import Derived.Test.YtdaajncfhcpecaaVPermNo
namespace Go.Proofs.Ytdaajncfhcpecaa
set_option linter.unusedVariables false
set_option linter.unusedSimpArgs false
open Go Go.RowKit Go.Shelf
/-- 'append(out, x)' as a run; what becomes of the blocks. -/
theorem append_run4 (W : World) (B : Nat) (v : Value) (l : List Int) (y : Int) (hown : OI .i64 3 W B v l) (hlen : l.length + 1 ≤ 8192) (hB : B ≤ W.heap.size) :
    ∃ g cap W', (Builtin.append_ #[22, 22] 22 #[v, .slice (some ⟨W.heap.size, 0, none⟩) 1 1]).run Try.prog (W.alloc (.cells #[.int .i64 y] 3)) = .ok (.slice (some ⟨g, 0, none⟩) (l.length + 1) cap) W' ∧
      OI .i64 3 W' B (.slice (some ⟨g, 0, none⟩) (l.length + 1) cap) (l ++ [y]) ∧ Below B W W' ∧ (W.alloc (.cells #[.int .i64 y] 3)).grownBy W' v.ownBlock ∧ (v.ownBlock = some g ∨ g = W.heap.size + 1) := by
  obtain ⟨i0, h1, h2, h3, h4⟩ := info_parts info3
  obtain ⟨g, cap, W', hr, ho, hg, hh, _⟩ := run_append_lies (P := Try.prog) (W.alloc (.cells #[.int .i64 y] 3)) 22 22 B 3 i0 (.int .i64 0) 1 8 under22 h1 h2 h3 h4 rfl (by decide) v l.length (ints .i64 l) (OI.alloc hown _)
    ⟨W.heap.size, 0, none⟩ 1 1 [.int .i64 y] rfl (cell_one_new _ _ _) (by intro u hu; simp at hu; subst hu; rfl) (by decide) (by unfold maxLen; omega) (by omega) (by simp; omega) _ rfl
  refine ⟨_, _, W', hr, ?_, ?_, hg, ?_⟩
  · unfold OI; simpa [ints] using ho
  · exact ((Below.refl _ _).alloc hB _).grown hg (by simp; omega) (fun g hg' => (hown.lt g hg').1)
  · simpa using hh
/-- Two rows of the call's own, apart. -/
def Apart (v u : Value) : Prop := ∀ g, v.ownBlock = some g → u.ownBlock ≠ some g
theorem Apart.nil (u : Value) : Apart (.slice none 0 0) u := fun g h => by simp [Value.ownBlock] at h
/-- Good axes: each is one, and none comes twice. -/
def goodAx (n : Nat) (axes : List Int) : Prop := ∀ i, i < axes.length → 0 ≤ axes.getD i 0 ∧ axes.getD i 0 < n ∧ axes.getD i 0 ∉ axes.take i
/-- Of each axis what the list has there. -/
def pick (l axes : List Int) : List Int := axes.map fun k => l.getD k.toNat 0
theorem pick_step (l axes : List Int) {i : Nat} (h : i < axes.length) : pick l (axes.take i) ++ [l.getD (axes.getD i 0).toNat 0] = pick l (axes.take (i + 1)) := by
  unfold pick
  rw [List.take_add_one, List.map_append, List.getElem?_eq_getElem h]
  simp [List.getD_eq_getElem?_getD, List.getElem?_eq_getElem h]
theorem pick_length (l axes : List Int) {i : Nat} (h : i ≤ axes.length) : (pick l (axes.take i)).length = i := by simp [pick]; omega
/-- A front of a slice. -/
theorem RI.take {k : IntKind} {w : World} {A : Option Addr} {l : List Int} (h : RI k w A l) (m : Nat) : RI k w A (l.take m) := fun i hi => by
  have hi2 : i < l.length := by rw [List.length_take] at hi; omega
  have him : i < m := by rw [List.length_take] at hi; omega
  obtain ⟨ad, e, hc⟩ := h i hi2
  refine ⟨ad, e, ?_⟩
  rw [hc]
  congr 2
  rw [List.getD_eq_getElem?_getD, List.getD_eq_getElem?_getD, List.getElem?_take_of_lt him]
/-- After an append the other row lies as it lay, apart still. -/
theorem other_row {W W' : World} {B g cap n c2 : Nat} {v : Value} {l2 : List Int} {A2 : Option Addr} {y : Int} (h2 : OI .i64 3 W B (.slice A2 n c2) l2) (hap : Apart v (.slice A2 n c2)) (hg : (W.alloc (.cells #[.int .i64 y] 3)).grownBy W' v.ownBlock)
    (hh : v.ownBlock = some g ∨ g = W.heap.size + 1) (m : Nat) : OI .i64 3 W' B (.slice A2 n c2) l2 ∧ Apart (.slice (some ⟨g, 0, none⟩) m cap) (.slice A2 n c2) := by
  refine ⟨(h2.alloc _).kept hg fun g' hv e => hap g' e hv, fun g' hv e => ?_⟩
  have hgg : g = g' := by simpa [Value.ownBlock] using hv
  subst hgg
  rcases hh with h | h
  · exact hap g h e
  · have := (h2.lt g e).2
    omega
attribute [-go_sem] Go.Builtin.append_
set_option maxHeartbeats 4000000 in
theorem Permute_axes (o : Int) (A B X : Option Addr) (cp cq cx : Nat) (l s axes : List Int) (w : World) (hr : RI .i64 w A l) (hs : RI .i64 w B s) (hx : RI .i64 w X axes) (hm : l.length ≤ 9223372036854775807) (hms : s.length ≤ 9223372036854775807) (hq : V.check o l s 4096 = 0) (hl : axes.length = l.length) (hcx : axes.length ≤ cx) :
    Calls Try.prog 35 #[.agg (view o A l.length cp B s.length cq), .slice X axes.length cx] w fun e w' => Below w.heap.size w w' ∧
      ((goodAx l.length axes ∧ ∃ A1 c1 A2 c2, e = .returned (.tuple #[.agg (view o A1 axes.length c1 A2 axes.length c2), .int .i64 0]) ∧ OI .i64 3 w' w.heap.size (.slice A1 axes.length c1) (pick l axes) ∧ OI .i64 3 w' w.heap.size (.slice A2 axes.length c2) (pick s axes)) ∨
       (¬ goodAx l.length axes ∧ e = .returned (.tuple #[.agg noView, .int .i64 10]))) := by
  have Z2 := Blk.new w 49 (view o A l.length cp B s.length cq)
  have Z4 := Blk.new (w.alloc (.cells (view o A l.length cp B s.length cq) 49)) 49 noView
  rw [World.size_alloc] at Z4
  have HB := Lib.hid (show Below w.heap.size w ((w.alloc (.cells (view o A l.length cp B s.length cq) 49)).alloc (.cells noView 49)) from ((Below.refl _ _).alloc (Nat.le_refl _) _).alloc (by simp) _)
  have HK2 := Lib.hid (Z2.alloc (.cells noView 49))
  have HK4 := Lib.hid Z4
  clear Z2 Z4
  have hr' := Lib.hid hr
  have hs' := Lib.hid hs
  have hx' := Lib.hid hx
  obtain ⟨h1, hok, _⟩ := V.check_zero hq
  have h4 := hok.1
  have h4s : s.length ≤ 4 := by omega
  have h4x : axes.length ≤ 4 := by omega
  have HLS := Lib.hid h1
  have CH := Lib.hid (Check_any o A B cp cq l s 4096 _ (hr.below HB.out) (hs.below HB.out) hm hms)
  rw [hq] at CH
  have HLX := Lib.hid hl
  clear hr hs hx hq h1 hok
  have hl1 : ((axes.length : Int) != (l.length : Int)) = false := by simp [hl]
  have hl2 : ((axes.length : Int) == (l.length : Int)) = true := by simp [hl]
  clear hl
  go_enter Try.func35, Try.ntmps35
  go_wp2_with fail
  with_reducible refine CH.out.mono ?_
  rintro e w1 ⟨rfl, hb1⟩
  have HB1 := Lib.hid (below_then HB.out HB.out.size hb1)
  have HJ2 := Lib.hid (HK2.out.below hb1 (by simp; omega))
  have HJ4 := Lib.hid (HK4.out.below hb1 (by simp))
  clear hb1 CH
  have j0 := HJ2.out.cell 0
  have j1 := HJ2.out.cell 1
  go_wp2_with fail
  have Z7 := Blk.new w1 49 #[.int .i64 o, .slice none 0 0, .slice none 0 0]
  have HS1 := Lib.hid HJ4.out.lt
  have HSB := Lib.hid HB1.out.size
  have W2 := Lib.hid (HJ2.out.alloc (.cells #[.int .i64 o, .slice none 0 0, .slice none 0 0] 49))
  have W4 := Lib.hid (HJ4.out.alloc (.cells #[.int .i64 o, .slice none 0 0, .slice none 0 0] 49))
  have W7 := Lib.hid Z7
  have WB := Lib.hid (HB1.out.alloc HB1.out.size (.cells #[.int .i64 o, .slice none 0 0, .slice none 0 0] 49))
  clear Z7 j0 j1
  generalize hs1 : w1.heap.size = s1 at *
  have hS1 := HS1.out
  go_loopw [28] (fun n wr => ∃ (i : Nat) (A1 : Option Addr) (c1 : Nat) (A2 : Option Addr) (c2 : Nat), i ≤ axes.length ∧ n = .int .i64 i ∧ Hid (Blk wr w.heap.size 49 (view o A l.length cp B s.length cq)) ∧ Hid (Blk wr (w.heap.size + 1) 49 noView) ∧ Hid (Blk wr s1 49 #[.int .i64 o, .slice A1 i c1, .slice A2 i c2]) ∧
    Hid (OI .i64 3 wr (s1 + 1) (.slice A1 i c1) (pick l (axes.take i))) ∧ Hid (OI .i64 3 wr (s1 + 1) (.slice A2 i c2) (pick s (axes.take i))) ∧ Hid (Apart (.slice A1 i c1) (.slice A2 i c2)) ∧ Hid (∀ j, j < i → 0 ≤ axes.getD j 0 ∧ axes.getD j 0 < l.length ∧ axes.getD j 0 ∉ axes.take j) ∧ Hid (Below w.heap.size w wr)) (fun n _ => axes.length - (intOf n).toNat)
  case atStart =>
    exact ⟨0, none, 0, none, 0, by omega, rfl, W2, W4, W7, Lib.hid (OI.nil _ _ _ _), Lib.hid (OI.nil _ _ _ _), Lib.hid (Apart.nil _), Lib.hid fun j hj => absurd hj (by omega), WB⟩
  case round =>
    obtain ⟨i, A1, c1, A2, c2, hi, rfl, H2, H4, H7, HO1, HO2, HAP, HG, HBr⟩ := hrel
    have h20 := H2.out.cell 0
    have h21 := H2.out.cell 1
    have h22 := H2.out.cell 2
    have k0 := H4.out.cell 0
    have k1 := H4.out.cell 1
    have k2 := H4.out.cell 2
    have f0 := H4.out.frozen 0
    have f1 := H4.out.frozen 1
    have f2 := H4.out.frozen 2
    have HKE := Lib.hid (((H4.out.set_ 0 (.int .i64 0)).set_ 1 (.slice none 0 0)).set_ 2 (.slice none 0 0))
    have d0 := HKE.out.cell 0
    have d1 := HKE.out.cell 1
    have d2 := HKE.out.cell 2
    by_cases hlt : i < axes.length
    · have hil : (axes.take i).length = i := by rw [List.length_take]; omega
      have CT := Lib.hid (Contains_any X cx (axes.take i) (axes.getD i 0) wr ((hx'.out.below HBr.out).take i) (by omega))
      rw [hil] at CT
      obtain ⟨xd, rfl, hxc⟩ := (hx'.out.below HBr.out).at_ hlt
      have HOKI := Lib.hid (show goodAx l.length axes → 0 ≤ axes.getD i 0 ∧ axes.getD i 0 < l.length ∧ axes.getD i 0 ∉ axes.take i from fun h => h i hlt)
      have HST1 := Lib.hid (pick_step l axes hlt)
      have HST2 := Lib.hid (pick_step s axes hlt)
      have hixc : (i : Int) ≤ (cx : Int) := by omega
      clear hil
      generalize hkd : axes.getD i 0 = k at *
      have HKD := Lib.hid hkd
      clear hkd
      by_cases hk0 : k < 0
      · have HNG := Lib.hid (show ¬ goodAx l.length axes from fun h => by have := (HOKI.out h).1; omega)
        clear HOKI
        go_wp2_with fail
        refine bodyPost_ret (v := .tuple #[.agg noView, .int .i64 10]) (by simp [results, Try.results35, go_sem, d0, d1, d2]) rfl ⟨?_, .inr ⟨HNG.out, rfl⟩⟩
        exact ((HBr.out.setCell (p := ⟨w.heap.size + 1, 0, none⟩) (by simp) _).setCell (p := ⟨w.heap.size + 1, 1, none⟩) (by simp) _).setCell (p := ⟨w.heap.size + 1, 2, none⟩) (by simp) _
      · by_cases hk1 : (l.length : Int) ≤ k
        · have hd : decide (k < 0) = false := by simp; omega
          have hd2 : decide ((l.length : Int) ≤ k) = true := by simp [hk1]
          have HNG := Lib.hid (show ¬ goodAx l.length axes from fun h => by have := (HOKI.out h).2.1; omega)
          clear HOKI
          go_wp2_with fail
          refine bodyPost_ret (v := .tuple #[.agg noView, .int .i64 10]) (by simp [results, Try.results35, go_sem, d0, d1, d2]) rfl ⟨?_, .inr ⟨HNG.out, rfl⟩⟩
          exact ((HBr.out.setCell (p := ⟨w.heap.size + 1, 0, none⟩) (by simp) _).setCell (p := ⟨w.heap.size + 1, 1, none⟩) (by simp) _).setCell (p := ⟨w.heap.size + 1, 2, none⟩) (by simp) _
        · have hd : decide (k < 0) = false := by simp; omega
          have hd2 : decide ((l.length : Int) ≤ k) = false := by simp; omega
          by_cases hk2 : k ∈ axes.take i
          · rw [decide_eq_true hk2] at CT
            have HNG := Lib.hid (show ¬ goodAx l.length axes from fun h => (HOKI.out h).2.2 hk2)
            clear HOKI
            go_wp2_with fail
            with_reducible refine CT.out.mono ?_
            rintro e w' ⟨rfl, rfl⟩
            go_wp2_with fail
            refine bodyPost_ret (v := .tuple #[.agg noView, .int .i64 10]) (by simp [results, Try.results35, go_sem, d0, d1, d2]) rfl ⟨?_, .inr ⟨HNG.out, rfl⟩⟩
            exact ((HBr.out.setCell (p := ⟨w.heap.size + 1, 0, none⟩) (by simp) _).setCell (p := ⟨w.heap.size + 1, 1, none⟩) (by simp) _).setCell (p := ⟨w.heap.size + 1, 2, none⟩) (by simp) _
          · rw [decide_eq_false hk2] at CT
            obtain ⟨kn, rfl⟩ : ∃ kn : Nat, k = (kn : Int) := ⟨k.toNat, by omega⟩
            have hkl : kn < l.length := by omega
            have hks : kn < s.length := by rw [← HLS.out]; exact hkl
            rw [Int.toNat_natCast] at HST1 HST2
            have HG2 := Lib.hid (show ∀ j, j < i + 1 → 0 ≤ axes.getD j 0 ∧ axes.getD j 0 < l.length ∧ axes.getD j 0 ∉ axes.take j from fun j hj => by
              by_cases e : j = i
              · subst e; rw [HKD.out]; exact ⟨by omega, by omega, hk2⟩
              · exact HG.out j (by omega))
            clear hk2 HOKI
            obtain ⟨ad, rfl, hel⟩ := (hr'.out.below HBr.out).at_ hkl
            have hpl1 := pick_length l axes hi
            have hpl2 := pick_length s axes hi
            obtain ⟨g1, cap1, W1, hrun1, ho1, hb1, hg1, hh1⟩ := append_run4 wr.drew (s1 + 1) (.slice A1 i c1) (pick l (axes.take i)) (l.getD kn 0) (HO1.out.drewN 1) (by omega) H7.out.lt
            rw [hpl1, HST1.out] at ho1
            rw [hpl1] at hrun1
            replace hrun1 : Sem.run Try.prog (Builtin.append_ #[22, 22] 22 #[.slice A1 i c1, .slice (some ⟨wr.heap.size, 0, none⟩) 1 1]) ((wr.alloc (.cells #[.int .i64 (l.getD kn 0)] 3)).drew) = .ok (.slice (some ⟨g1, 0, none⟩) (i + 1) cap1) W1 := hrun1
            have HP1 := Lib.hid (other_row (HO2.out.drewN 1) HAP.out hg1 hh1 (cap := cap1) (i + 1))
            have BW1 := Lib.hid (show Below (s1 + 1) wr W1 from ⟨hb1.os, hb1.tape, hb1.output, hb1.size, hb1.block⟩)
            have J7 := Lib.hid (H7.out.below BW1.out (by omega))
            obtain ⟨WR, hWR⟩ : ∃ WR, W1.setCell ⟨s1, 1, none⟩ (.slice (some ⟨g1, 0, none⟩) (i + 1) cap1) = WR := ⟨_, rfl⟩
            have K7 := Lib.hid (show Blk WR s1 49 #[.int .i64 o, .slice (some ⟨g1, 0, none⟩) (i + 1) cap1, .slice A2 i c2] from by rw [← hWR]; exact J7.out.set_ 1 _)
            have K2 := Lib.hid (show Blk WR w.heap.size 49 _ from by rw [← hWR]; exact (H2.out.below BW1.out (by omega)).far (show w.heap.size ≠ s1 by omega) _)
            have K4 := Lib.hid (show Blk WR (w.heap.size + 1) 49 _ from by rw [← hWR]; exact (H4.out.below BW1.out (by omega)).far (show w.heap.size + 1 ≠ s1 by omega) _)
            have KO1 := Lib.hid (show OI .i64 3 WR (s1 + 1) _ _ from by rw [← hWR]; exact ho1.kept (set_grown _ _ _ _) (far_own ho1 (by omega)))
            have KO2 := Lib.hid (show OI .i64 3 WR (s1 + 1) _ _ from by rw [← hWR]; exact HP1.out.1.kept (set_grown _ _ _ _) (far_own HP1.out.1 (by omega)))
            have KB := Lib.hid (show Below w.heap.size w WR from by rw [← hWR]; exact (HBr.out.trans (BW1.out.mono (by omega))).setCell (p := ⟨s1, 1, none⟩) (show w.heap.size ≤ s1 by omega) _)
            obtain ⟨bd, rfl, hel2⟩ := (hs'.out.below KB.out).at_ hks
            obtain ⟨g2, cap2, W2', hrun2, ho2, hb2, hg2, hh2⟩ := append_run4 WR.drew (s1 + 1) (.slice A2 i c2) (pick s (axes.take i)) (s.getD kn 0) (KO2.out.drewN 1) (by omega) K7.out.lt
            rw [hpl2, HST2.out] at ho2
            rw [hpl2] at hrun2
            replace hrun2 : Sem.run Try.prog (Builtin.append_ #[22, 22] 22 #[.slice A2 i c2, .slice (some ⟨WR.heap.size, 0, none⟩) 1 1]) ((WR.alloc (.cells #[.int .i64 (s.getD kn 0)] 3)).drew) = .ok (.slice (some ⟨g2, 0, none⟩) (i + 1) cap2) W2' := hrun2
            have HP2 := Lib.hid (other_row (A2 := some ⟨g1, 0, none⟩) (n := i + 1) (c2 := cap1) (KO1.out.drewN 1) (fun g h e => HP1.out.2 g e h) hg2 hh2 (cap := cap2) (i + 1))
            have BW2 := Lib.hid (show Below (s1 + 1) WR W2' from ⟨hb2.os, hb2.tape, hb2.output, hb2.size, hb2.block⟩)
            have L7 := Lib.hid (K7.out.below BW2.out (by omega))
            have L2 := Lib.hid (K2.out.below BW2.out (by omega))
            have L4 := Lib.hid (K4.out.below BW2.out (by omega))
            have HO2' := Lib.hid ho2
            clear ho1 hb1 hg1 hh1 ho2 hb2 hg2 hh2 hpl1 hpl2 k0 k1 k2 f0 f1 f2 d0 d1 d2 HKE
            have h71 := H7.out.cell 1
            have h71' := (H7.out.alloc (.cells #[.int .i64 (l.getD kn 0)] 3)).cell 1
            have j71 := J7.out.cell 1
            have j71f := J7.out.frozen 1
            have k72 := K7.out.cell 2
            have k72' := (K7.out.alloc (.cells #[.int .i64 (s.getD kn 0)] 3)).cell 2
            have k22 := K2.out.cell 2
            have l72 := L7.out.cell 2
            have l72f := L7.out.frozen 2
            generalize l.getD kn 0 = y1 at *
            generalize s.getD kn 0 = y2 at *
            have hkn0 : (0 : Int) ≤ (kn : Int) := by omega
            go_wp2_with fail
            with_reducible refine CT.out.mono ?_
            rintro e w' ⟨rfl, rfl⟩
            go_wp2_with fail
            go_region_with (fail)
            all_goals
              go_wp2_with fail
              go_region_with (fail)
            all_goals
              go_wp2_with fail
              go_roundw
              case rel =>
                exact ⟨i + 1, some ⟨g1, 0, none⟩, cap1, some ⟨g2, 0, none⟩, cap2, by omega, by go_num, Lib.hid (L2.out.far (show w.heap.size ≠ s1 by omega) _), Lib.hid (L4.out.far (show w.heap.size + 1 ≠ s1 by omega) _), Lib.hid (L7.out.set_ 2 _),
                  Lib.hid (HP2.out.1.kept (set_grown _ _ _ _) (far_own HP2.out.1 (by omega))), Lib.hid (HO2'.out.kept (set_grown _ _ _ _) (far_own HO2'.out (by omega))), Lib.hid (fun g h e => HP2.out.2 g e h), HG2,
                  Lib.hid ((KB.out.trans (BW2.out.mono (by omega))).setCell (p := ⟨s1, 2, none⟩) (show w.heap.size ≤ s1 by omega) _)⟩
              case measure => simp [intOf]; omega
    · obtain rfl : i = axes.length := by omega
      have HGA := Lib.hid (show goodAx l.length axes from HG.out)
      have hO1 := HO1.out
      have hO2 := HO2.out
      rw [List.take_length] at hO1 hO2
      have HO1 := Lib.hid hO1
      have HO2 := Lib.hid hO2
      clear hO1 hO2 d0 d1 d2 HKE
      have h70 := H7.out.cell 0
      have h71 := H7.out.cell 1
      have h72 := H7.out.cell 2
      have HKE := Lib.hid (((H4.out.set_ 0 (.int .i64 o)).set_ 1 (.slice A1 axes.length c1)).set_ 2 (.slice A2 axes.length c2))
      have d0 := HKE.out.cell 0
      have d1 := HKE.out.cell 1
      have d2 := HKE.out.cell 2
      go_wp2_with fail
      refine bodyPost_ret (v := .tuple #[.agg (view o A1 axes.length c1 A2 axes.length c2), .int .i64 0]) (by simp [results, Try.results35, go_sem, d0, d1, d2]) rfl ⟨?_, .inl ⟨HGA.out, A1, c1, A2, c2, rfl, ?_, ?_⟩⟩
      · exact ((HBr.out.setCell (p := ⟨w.heap.size + 1, 0, none⟩) (by simp) _).setCell (p := ⟨w.heap.size + 1, 1, none⟩) (by simp) _).setCell (p := ⟨w.heap.size + 1, 2, none⟩) (by simp) _
      · exact (((HO1.out.kept (set_grown _ _ _ _) (far_own HO1.out (by omega))).kept (set_grown _ _ _ _) (far_own HO1.out (by omega))).kept (set_grown _ _ _ _) (far_own HO1.out (by omega))).mono (by omega)
      · exact (((HO2.out.kept (set_grown _ _ _ _) (far_own HO2.out (by omega))).kept (set_grown _ _ _ _) (far_own HO2.out (by omega))).kept (set_grown _ _ _ _) (far_own HO2.out (by omega))).mono (by omega)
end Go.Proofs.Ytdaajncfhcpecaa
