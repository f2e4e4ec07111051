/- The walk of chapter 7's next: the index behind one. No condition. -/
import Derived.Test.YtpkpadepccneeaaGreatDoorP24
namespace Go.Proofs.YtpkpadepccneeaaGreatDoor.W
set_option maxRecDepth 100000
set_option linter.unusedVariables false
set_option linter.unusedSimpArgs false
open Go.RowKit
theorem four_eq {x y z u a b c d : Int} (h : [x, y, z, u] = [a, b, c, d]) : x = a ∧ y = b ∧ z = c ∧ u = d := by
  injection h with e1 e2
  injection e2 with e2 e3
  injection e3 with e3 e4
  injection e4 with e4 e5
  exact ⟨e1, e2, e3, e4⟩
set_option maxHeartbeats 2000000 in
theorem next_any (A : Option Addr) (cp : Nat) (l : List Int) (n a b c d a' b' c' d' : Int) (w : World) (hr : RI .i64 w A l) (hok : S.Ok l) (h0 : 0 ≤ n) (hx : S.pad (S.atL l n) = [a, b, c, d]) (hx' : S.pad (S.atL l (n + 1)) = [a', b', c', d']) :
    Calls Tryz.prog 135 #[.slice A l.length cp, .agg (four a b c d)] w fun e w' => e = .returned (.agg (four a' b' c' d')) ∧ Below w.heap.size w w' := by
  have hl := hok.1
  have hr' := Lib.hid hr
  have HK := Lib.hid hok
  have HX := Lib.hid hx
  have HX' := Lib.hid hx'
  clear hr hok hx hx'
  have B3 : Blk ((w.alloc (.cells (four a b c d) 170)).alloc (.cells (four 0 0 0 0) 170)) w.heap.size 170 (four a b c d) := (Blk.new w 170 _).alloc _
  have B4 : Blk ((w.alloc (.cells (four a b c d) 170)).alloc (.cells (four 0 0 0 0) 170)) (w.heap.size + 1) 170 (four 0 0 0 0) := by
    have h := Blk.new (w.alloc (.cells (four a b c d) 170)) 170 (four 0 0 0 0)
    rw [World.size_alloc] at h
    exact h
  have HB3 := Lib.hid B3
  have HB4 := Lib.hid B4
  have HB2 := Lib.hid (show Below w.heap.size w ((w.alloc (.cells (four a b c d) 170)).alloc (.cells (four 0 0 0 0) 170)) from ((Below.refl _ _).alloc (Nat.le_refl _) _).alloc (by simp) _)
  clear B3 B4
  go_enter Tryz.func135, Tryz.ntmps135
  go_wp2_with fail
  go_loopw [5] (fun i wr => ∃ (j : Nat) (x y z u : Int), j ≤ l.length ∧ i = .int .i64 ((j : Int) - 1) ∧ Hid ([x, y, z, u] = S.mixAt l n j) ∧ Hid (S.Full l n j) ∧ Hid (Blk wr w.heap.size 170 (four x y z u)) ∧ Hid (Blk wr (w.heap.size + 1) 170 (four 0 0 0 0)) ∧ Hid (Below w.heap.size w wr)) (fun i _ => (intOf i + 1).toNat)
  case atStart => exact ⟨l.length, a, b, c, d, by omega, rfl, Lib.hid (by rw [S.mixAt_top l n hl, HX.out]), Lib.hid (S.full_top l n), HB3, HB4, HB2⟩
  case round =>
    obtain ⟨j, x, y, z, u, hj, rfl, HF, HFu, H3, H4, HBW⟩ := hrel
    by_cases hlt : 1 ≤ j
    · obtain ⟨k, rfl⟩ : ∃ k, j = k + 1 := ⟨j - 1, by omega⟩
      have hk : k < l.length := by omega
      have hr1 := HK.out.2.1 _ (S.getD_mem hk)
      have hq1 : 1 ≤ S.stride l k := S.prod_drop_pos l (k + 1) HK.out.2.1
      have hdig := S.mixAt_at l n hk hl
      rw [← HF.out] at hdig
      have hd0 := Int.emod_nonneg (n / S.stride l k) (show l.getD k 0 ≠ 0 by omega)
      have hd1 := Int.emod_lt_of_pos (n / S.stride l k) (show 0 < l.getD k 0 by omega)
      have hle : l.getD k 0 ≤ 4096 := by
        have h1 := S.prod_drop_at l hk
        have h2 := S.prod_drop_le l k HK.out.2.1
        have h3 := HK.out.2.2
        have h4 := S.mul_ge hr1 hq1
        omega
      have HS := Lib.hid fun (h : n / S.stride l k % l.getD k 0 + 1 < l.getD k 0) => S.next_stop l n hk hl HK.out.2.1 HFu.out h
      have HC := Lib.hid fun (h : ¬ n / S.stride l k % l.getD k 0 + 1 < l.getD k 0) => S.next_carry l n hk hl HK.out.2.1 HFu.out h
      have hc3 := (H3.out.cell k).trans (four_get x y z u k (by omega))
      have hf3 := H3.out.frozen k
      rw [hdig] at hc3
      generalize n / S.stride l k % l.getD k 0 = g at *
      obtain ⟨x', y', z', u', hs1, hs2⟩ := four_set (S.mixAt l n (k + 1)) x y z u HF.out k (by omega) (g + 1)
      have h3 := H3.out.set_ k (.int .i64 (g + 1))
      rw [hs1] at h3
      have h4 := H4.out.far (p := ⟨w.heap.size, k, none⟩) (by simp) (.int .i64 (g + 1))
      have hbw := HBW.out.setCell (p := ⟨w.heap.size, k, none⟩) (by simp) (.int .i64 (g + 1))
      obtain ⟨ad, rfl, hcl⟩ := (hr'.out.below hbw).at_ hk
      have hc3' := (h3.cell k).trans (four_get x' y' z' u' k (by omega))
      have hg2 : [x', y', z', u'].getD k 0 = g + 1 := by
        rw [hs2]
        simp [List.getD_eq_getElem?_getD, S.mixAt_length, show k < 4 by omega]
      rw [hg2] at hc3'
      have H3' := Lib.hid h3
      have H4' := Lib.hid h4
      have HBW' := Lib.hid hbw
      have HS2 := Lib.hid hs2
      clear hs1 hs2 h3 h4 hbw hdig hg2
      generalize l.getD k 0 = s at *
      generalize S.stride l k = q at *
      have hi0 : ((k + 1 : Nat) : Int) - 1 = (k : Int) := by omega
      have hi1 : (0 : Int) ≤ (k : Int) := by omega
      have hi2 : (k : Int) < 4 := by omega
      have hi3 : (k : Int) < (l.length : Int) := by omega
      rw [hi0]
      by_cases hd : g + 1 < s
      · have he := HS.out hd
        rw [← HS2.out, HX'.out] at he
        obtain ⟨e1, e2, e3, e4⟩ := four_eq he
        subst e1 e2 e3 e4
        clear he
        go_wp2_with fail
        go_quiet (fail)
        have V3 := Lib.hid (H3'.out.drewN nq)
        have V4 := Lib.hid (H4'.out.drewN nq)
        have VB := Lib.hid (below_drewN HBW'.out nq)
        clear hc3' hcl
        generalize (wr.setCell ⟨w.heap.size, k, none⟩ (.int .i64 (g + 1))).drewN nq = V at *
        have a0 := V3.out.cell 0
        have a1 := V3.out.cell 1
        have a2 := V3.out.cell 2
        have a3 := V3.out.cell 3
        have c0 := V4.out.cell 0
        have c1 := V4.out.cell 1
        have c2 := V4.out.cell 2
        have c3 := V4.out.cell 3
        have f0 := V4.out.frozen 0
        have f1 := V4.out.frozen 1
        have f2 := V4.out.frozen 2
        have f3 := V4.out.frozen 3
        have D := (((V4.out.set_ 0 (.int .i64 x')).set_ 1 (.int .i64 y')).set_ 2 (.int .i64 z')).set_ 3 (.int .i64 u')
        have d0 := D.cell 0
        have d1 := D.cell 1
        have d2 := D.cell 2
        have d3 := D.cell 3
        have HD := Lib.hid (show Below w.heap.size w ((((V.setCell ⟨w.heap.size + 1, 0, none⟩ (.int .i64 x')).setCell ⟨w.heap.size + 1, 1, none⟩ (.int .i64 y')).setCell ⟨w.heap.size + 1, 2, none⟩ (.int .i64 z')).setCell ⟨w.heap.size + 1, 3, none⟩ (.int .i64 u')) from (((VB.out.setCell (by simp) _).setCell (by simp) _).setCell (by simp) _).setCell (by simp) _)
        clear D
        go_wp2_with fail
        exact bodyPost_ret (v := .agg (four x' y' z' u')) (by simp [results, Tryz.results135, go_sem, d0, d1, d2, d3]) rfl ⟨rfl, HD.out⟩
      · obtain ⟨he, hfu⟩ := HC.out hd
        obtain ⟨x2, y2, z2, u2, hs3, hs4⟩ := four_set _ x' y' z' u' HS2.out k (by omega) 0
        rw [List.set_set, he] at hs4
        have HF2 := Lib.hid hs4
        have HFu2 := Lib.hid hfu
        go_wp2_with fail
        go_quiet (fail)
        have V3 := Lib.hid (H3'.out.drewN nq)
        have V4 := Lib.hid (H4'.out.drewN nq)
        have VB := Lib.hid (below_drewN HBW'.out nq)
        clear hc3' hcl he hfu hs4
        generalize (wr.setCell ⟨w.heap.size, k, none⟩ (.int .i64 (g + 1))).drewN nq = V at *
        have hcv := (V3.out.cell k).trans (four_get x' y' z' u' k (by omega))
        have hfv := V3.out.frozen k
        have v3 := V3.out.set_ k (.int .i64 0)
        rw [hs3] at v3
        have W3 := Lib.hid v3
        have W4 := Lib.hid (V4.out.far (p := ⟨w.heap.size, k, none⟩) (by simp) (.int .i64 0))
        have WB := Lib.hid (VB.out.setCell (p := ⟨w.heap.size, k, none⟩) (by simp) (.int .i64 0))
        clear v3 hs3
        generalize [x', y', z', u'].getD k 0 = old at *
        go_wp2_with fail
        go_roundw
        case rel => exact ⟨k, x2, y2, z2, u2, by omega, by go_num, HF2, HFu2, W3, W4, WB⟩
        case measure => simp [intOf]
    · obtain rfl : j = 0 := by omega
      have he : [x, y, z, u] = [a', b', c', d'] := by rw [HF.out, S.mixAt_zero l n hl, HX'.out]
      obtain ⟨e1, e2, e3, e4⟩ := four_eq he
      subst e1 e2 e3 e4
      clear he
      have a0 := H3.out.cell 0
      have a1 := H3.out.cell 1
      have a2 := H3.out.cell 2
      have a3 := H3.out.cell 3
      have c0 := H4.out.cell 0
      have c1 := H4.out.cell 1
      have c2 := H4.out.cell 2
      have c3 := H4.out.cell 3
      have f0 := H4.out.frozen 0
      have f1 := H4.out.frozen 1
      have f2 := H4.out.frozen 2
      have f3 := H4.out.frozen 3
      have D := (((H4.out.set_ 0 (.int .i64 x)).set_ 1 (.int .i64 y)).set_ 2 (.int .i64 z)).set_ 3 (.int .i64 u)
      have d0 := D.cell 0
      have d1 := D.cell 1
      have d2 := D.cell 2
      have d3 := D.cell 3
      have HD := Lib.hid (show Below w.heap.size w ((((wr.setCell ⟨w.heap.size + 1, 0, none⟩ (.int .i64 x)).setCell ⟨w.heap.size + 1, 1, none⟩ (.int .i64 y)).setCell ⟨w.heap.size + 1, 2, none⟩ (.int .i64 z)).setCell ⟨w.heap.size + 1, 3, none⟩ (.int .i64 u)) from (((HBW.out.setCell (by simp) _).setCell (by simp) _).setCell (by simp) _).setCell (by simp) _)
      clear D
      go_wp2_with fail
      exact bodyPost_ret (v := .agg (four x y z u)) (by simp [results, Tryz.results135, go_sem, d0, d1, d2, d3]) rfl ⟨rfl, HD.out⟩
end Go.Proofs.YtpkpadepccneeaaGreatDoor.W
