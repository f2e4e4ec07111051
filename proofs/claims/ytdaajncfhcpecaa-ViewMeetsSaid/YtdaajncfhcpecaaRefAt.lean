/- The walk of the reference's At of chapter 7. No condition. -/
import Derived.Test.YtdaajncfhcpecaaRefWalk
import Derived.Test.YtdaajncfhcpecaaSMath2
namespace Go.Proofs.Ytdaajncfhcpecaa
set_option linter.unusedVariables false
set_option linter.unusedSimpArgs false
open Go.RowKit
set_option maxHeartbeats 1000000 in
theorem refAt_any (A : Option Addr) (cp : Nat) (l : List Int) (n a b c d : Int) (w : World) (hr : RI .i64 w A l) (hcap : l.length ≤ cp) (hok : S.Ok l) (h0 : 0 ≤ n) (h1 : n ≤ 9223372036854775807) (hx : S.pad (S.atL l n) = [a, b, c, d]) :
    Calls Try.prog 23 #[.slice A l.length cp, .int .i64 n] w fun e w' => e = .returned (.agg (four a b c d)) ∧ Below w.heap.size w w' := by
  have hl := hok.1
  have HB := Lib.hid fun (o : Obj) => (Below.refl w.heap.size w).alloc (Nat.le_refl _) o
  have hr' := Lib.hid hr
  have HK := Lib.hid hok
  have HX := Lib.hid hx
  have C := Lib.hid fun (k : Nat) (W : World) (h : RI .i64 W A l) (hk : k < l.length) => flipw (Stride_any A cp l k W h hcap hok hk)
  clear hr hok hx
  have B4 : Blk ((w.alloc (.cells (four 0 0 0 0) 32)).alloc (.cells (four 0 0 0 0) 32)) w.heap.size 32 (four 0 0 0 0) := (Blk.new w 32 _).alloc _
  have B8 : Blk ((w.alloc (.cells (four 0 0 0 0) 32)).alloc (.cells (four 0 0 0 0) 32)) (w.heap.size + 1) 32 (four 0 0 0 0) := by
    have h := Blk.new (w.alloc (.cells (four 0 0 0 0) 32)) 32 (four 0 0 0 0)
    rw [World.size_alloc] at h
    exact h
  have HB4 := Lib.hid B4
  have HB8 := Lib.hid B8
  have HB2 := Lib.hid (show Below w.heap.size w ((w.alloc (.cells (four 0 0 0 0) 32)).alloc (.cells (four 0 0 0 0) 32)) from (HB.out _).alloc (by simp) _)
  clear B4 B8
  go_enter Try.func23, Try.ntmps23
  go_wp2_with fail
  go_loopw [9] (fun i wr => ∃ (k : Nat) (x y z u : Int), k ≤ l.length ∧ i = .int .i64 k ∧ Hid ([x, y, z, u] = S.frontAt l n k) ∧ Hid (Blk wr w.heap.size 32 (four 0 0 0 0)) ∧ Hid (Blk wr (w.heap.size + 1) 32 (four x y z u)) ∧ Hid (Below w.heap.size w wr)) (fun i _ => l.length - (intOf i).toNat)
  case atStart => exact ⟨0, 0, 0, 0, 0, by omega, rfl, Lib.hid (S.frontAt_zero l n).symm, HB4, HB8, HB2⟩
  case round =>
    obtain ⟨k, x, y, z, u, hj, rfl, HF, H4, H8, HBW⟩ := hrel
    by_cases hk : k < l.length
    · obtain ⟨ad, rfl, hcl⟩ := (hr'.out.below HBW.out).at_ hk
      have hr1 := HK.out.2.1 _ (S.getD_mem hk)
      have hq1 : 1 ≤ S.stride l k := S.prod_drop_pos l (k + 1) HK.out.2.1
      have hdv : 0 ≤ n / S.stride l k := Int.ediv_nonneg h0 (by omega)
      have hdv2 : n / S.stride l k ≤ n := Int.ediv_le_self _ h0
      have hc8 := (H8.out.cell k).trans (four_get x y z u k (by omega))
      have hf8 := H8.out.frozen k
      have hset := four_set (S.frontAt l n k) x y z u HF.out k (by omega) (n / S.stride l k % l.getD k 0)
      rw [S.frontAt_set l n k hk hl] at hset
      obtain ⟨x', y', z', u', hs1, hs2⟩ := hset
      have hwr : RI .i64 wr (some ad) l := hr'.out.below HBW.out
      have C5 := Lib.hid (C.out k wr.drew hwr hk)
      have h8 := H8.out.set_ k (.int .i64 (n / S.stride l k % l.getD k 0))
      rw [hs1] at h8
      have h4 := H4.out.far (p := ⟨w.heap.size + 1, k, none⟩) (by simp) (.int .i64 (n / S.stride l k % l.getD k 0))
      have hbw := HBW.out.setCell (p := ⟨w.heap.size + 1, k, none⟩) (by simp) (.int .i64 (n / S.stride l k % l.getD k 0))
      have H8' := Lib.hid h8
      have H4' := Lib.hid h4
      have HBW' := Lib.hid hbw
      have HF' := Lib.hid hs2
      clear hs1 hs2 h8 h4 hbw hwr
      generalize [x, y, z, u].getD k 0 = old at *
      generalize l.getD k 0 = s at *
      generalize S.stride l k = q at *
      have hi0 : (0 : Int) ≤ (k : Int) := by omega
      have hi1 : (k : Int) < (l.length : Int) := by omega
      have hi2 : (k : Int) < 4 := by omega
      go_wp2_with fail
      go_still_tail 12, (by kernel_rfl)
      still_call C5.out
      have hq0 : (q = 0) = False := eq_false (by omega)
      have hs0 : (s = 0) = False := eq_false (by omega)
      have htd : IntKind.i64.wrap (n.tdiv q) = n / q := by rw [Int.tdiv_eq_ediv_of_nonneg h0, IntKind.wrap_i64]; omega
      have htm : (n / q).tmod s = n / q % s := Int.tmod_eq_emod_of_nonneg hdv
      repeat still_step
      refine wpStill_nil ?_
      clear hq0 hs0 htd htm
      change wpList _ _ _ _ _ wr.drew
      go_wp2_with fail
      exact ⟨⟨k + 1, x', y', z', u', by omega, by go_num, HF', Lib.hid H4'.out, Lib.hid H8'.out, Lib.hid HBW'.out.drew⟩, by simp [intOf]; omega⟩
    · obtain rfl : k = l.length := by omega
      have hxx : [x, y, z, u] = [a, b, c, d] := by rw [HF.out, S.frontAt_full l n hl, HX.out]
      injection hxx with e1 e2
      injection e2 with e2 e3
      injection e3 with e3 e4
      injection e4 with e4 e5
      subst e1
      subst e2
      subst e3
      subst e4
      clear e5
      have a0 := H8.out.cell 0
      have a1 := H8.out.cell 1
      have a2 := H8.out.cell 2
      have a3 := H8.out.cell 3
      have c0 := H4.out.cell 0
      have c1 := H4.out.cell 1
      have c2 := H4.out.cell 2
      have c3 := H4.out.cell 3
      have f0 := H4.out.frozen 0
      have f1 := H4.out.frozen 1
      have f2 := H4.out.frozen 2
      have f3 := H4.out.frozen 3
      have D := (((H4.out.set_ 0 (.int .i64 x)).set_ 1 (.int .i64 y)).set_ 2 (.int .i64 z)).set_ 3 (.int .i64 u)
      have d0 := D.cell 0
      have d1 := D.cell 1
      have d2 := D.cell 2
      have d3 := D.cell 3
      have HD := Lib.hid (show Below w.heap.size w ((((wr.setCell ⟨w.heap.size, 0, none⟩ (.int .i64 x)).setCell ⟨w.heap.size, 1, none⟩ (.int .i64 y)).setCell ⟨w.heap.size, 2, none⟩ (.int .i64 z)).setCell ⟨w.heap.size, 3, none⟩ (.int .i64 u)) from (((HBW.out.setCell (by simp) _).setCell (by simp) _).setCell (by simp) _).setCell (by simp) _)
      clear D
      go_wp2_with fail
      exact bodyPost_ret (v := .agg (four x y z u)) (by simp [results, Try.results23, go_sem, d0, d1, d2, d3]) rfl ⟨rfl, HD.out⟩
end Go.Proofs.Ytdaajncfhcpecaa
