/- The walk of chapter 8's Permute, where the view is none, or the axes are not so many. No condition. -/
import Derived.Test.YtdaajncfhcpecaaVContains
namespace Go.Proofs.Ytdaajncfhcpecaa
set_option linter.unusedVariables false
set_option linter.unusedSimpArgs false
open Go.RowKit
set_option maxHeartbeats 1000000 in
theorem Permute_err (o : Int) (A B X : Option Addr) (cp cq cx m : Nat) (l s : List Int) (w : World) (hr : RI .i64 w A l) (hs : RI .i64 w B s) (hm : l.length ≤ 9223372036854775807) (hms : s.length ≤ 9223372036854775807) (hq : V.check o l s 4096 ≠ 0) :
    Calls Try.prog 35 #[.agg (view o A l.length cp B s.length cq), .slice X m cx] w fun e w' => e = .returned (.tuple #[.agg noView, .int .i64 (V.check o l s 4096)]) ∧ Below w.heap.size w w' := by
  have Z2 := Blk.new w 49 (view o A l.length cp B s.length cq)
  have Z4 := Blk.new (w.alloc (.cells (view o A l.length cp B s.length cq) 49)) 49 noView
  rw [World.size_alloc] at Z4
  have HB := Lib.hid (show Below w.heap.size w ((w.alloc (.cells (view o A l.length cp B s.length cq) 49)).alloc (.cells noView 49)) from ((Below.refl _ _).alloc (Nat.le_refl _) _).alloc (by simp) _)
  have HK2 := Lib.hid (Z2.alloc (.cells noView 49))
  have HK4 := Lib.hid Z4
  clear Z2 Z4
  have CH := Lib.hid (Check_any o A B cp cq l s 4096 _ (hr.below HB.out) (hs.below HB.out) hm hms)
  clear hr hs
  generalize V.check o l s 4096 = q at *
  have hq1 : (q != 0) = true := by simp [hq]
  have hq2 : (q == 0) = false := by simp [hq]
  clear hq
  go_enter Try.func35, Try.ntmps35
  go_wp2_with fail
  with_reducible refine CH.out.mono ?_
  rintro e w1 ⟨rfl, hb1⟩
  have HB1 := Lib.hid (below_then HB.out HB.out.size hb1)
  have HJ4 := Lib.hid (HK4.out.below hb1 HK4.out.lt)
  clear hb1 CH
  have k0 := HJ4.out.cell 0
  have k1 := HJ4.out.cell 1
  have k2 := HJ4.out.cell 2
  have f0 := HJ4.out.frozen 0
  have f1 := HJ4.out.frozen 1
  have f2 := HJ4.out.frozen 2
  have HKE := Lib.hid (((HJ4.out.set_ 0 (.int .i64 0)).set_ 1 (.slice none 0 0)).set_ 2 (.slice none 0 0))
  have d0 := HKE.out.cell 0
  have d1 := HKE.out.cell 1
  have d2 := HKE.out.cell 2
  go_wp2_with fail
  refine bodyPost_ret (v := .tuple #[.agg noView, .int .i64 q]) (by simp [results, Try.results35, go_sem, d0, d1, d2]) rfl ⟨rfl, ?_⟩
  exact ((HB1.out.setCell (p := ⟨w.heap.size + 1, 0, none⟩) (by simp) _).setCell (p := ⟨w.heap.size + 1, 1, none⟩) (by simp) _).setCell (p := ⟨w.heap.size + 1, 2, none⟩) (by simp) _
set_option maxHeartbeats 1000000 in
theorem Permute_len (o : Int) (A B X : Option Addr) (cp cq cx m : Nat) (l s : List Int) (w : World) (hr : RI .i64 w A l) (hs : RI .i64 w B s) (hm : l.length ≤ 9223372036854775807) (hms : s.length ≤ 9223372036854775807) (hq : V.check o l s 4096 = 0) (hl : m ≠ l.length) :
    Calls Try.prog 35 #[.agg (view o A l.length cp B s.length cq), .slice X m cx] w fun e w' => e = .returned (.tuple #[.agg noView, .int .i64 10]) ∧ Below w.heap.size w w' := by
  have Z2 := Blk.new w 49 (view o A l.length cp B s.length cq)
  have Z4 := Blk.new (w.alloc (.cells (view o A l.length cp B s.length cq) 49)) 49 noView
  rw [World.size_alloc] at Z4
  have HB := Lib.hid (show Below w.heap.size w ((w.alloc (.cells (view o A l.length cp B s.length cq) 49)).alloc (.cells noView 49)) from ((Below.refl _ _).alloc (Nat.le_refl _) _).alloc (by simp) _)
  have HK2 := Lib.hid (Z2.alloc (.cells noView 49))
  have HK4 := Lib.hid Z4
  clear Z2 Z4
  have CH := Lib.hid (Check_any o A B cp cq l s 4096 _ (hr.below HB.out) (hs.below HB.out) hm hms)
  rw [hq] at CH
  clear hr hs hq
  have hl1 : ((m : Int) != (l.length : Int)) = true := by simp; omega
  have hl2 : ((m : Int) == (l.length : Int)) = false := by simp; omega
  clear hl
  go_enter Try.func35, Try.ntmps35
  go_wp2_with fail
  with_reducible refine CH.out.mono ?_
  rintro e w1 ⟨rfl, hb1⟩
  have HB1 := Lib.hid (below_then HB.out HB.out.size hb1)
  have HJ2 := Lib.hid (HK2.out.below hb1 HK2.out.lt)
  have HJ4 := Lib.hid (HK4.out.below hb1 HK4.out.lt)
  clear hb1 CH
  have j1 := HJ2.out.cell 1
  have k0 := HJ4.out.cell 0
  have k1 := HJ4.out.cell 1
  have k2 := HJ4.out.cell 2
  have f0 := HJ4.out.frozen 0
  have f1 := HJ4.out.frozen 1
  have f2 := HJ4.out.frozen 2
  have HKE := Lib.hid (((HJ4.out.set_ 0 (.int .i64 0)).set_ 1 (.slice none 0 0)).set_ 2 (.slice none 0 0))
  have d0 := HKE.out.cell 0
  have d1 := HKE.out.cell 1
  have d2 := HKE.out.cell 2
  go_wp2_with fail
  refine bodyPost_ret (v := .tuple #[.agg noView, .int .i64 10]) (by simp [results, Try.results35, go_sem, d0, d1, d2]) rfl ⟨rfl, ?_⟩
  exact ((HB1.out.setCell (p := ⟨w.heap.size + 1, 0, none⟩) (by simp) _).setCell (p := ⟨w.heap.size + 1, 1, none⟩) (by simp) _).setCell (p := ⟨w.heap.size + 1, 2, none⟩) (by simp) _
end Go.Proofs.Ytdaajncfhcpecaa
