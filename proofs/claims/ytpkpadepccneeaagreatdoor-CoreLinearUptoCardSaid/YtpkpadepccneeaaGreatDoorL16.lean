/- The walk of plan.of's iterator, at the ways of length 4 in the field of 5. No condition. -/
import Derived.Test.YtpkpadepccneeaaGreatDoorL14
import Derived.Test.YtpkpadepccneeaaGreatDoorL15
import Derived.LoopNIn
import Derived.Sort.CutIn
import Derived.Deep.RegionHeld3
import Derived.Test.YtpkpadepccneeaaGreatDoorL13
import Derived.Maps.OwnSet
import Derived.DeepKeys5
import Derived.Test.YtpkpadepccneeaaGreatDoorL11
import Derived.OrdersIn
import Derived.Sort.QuietIn
import Derived.BigRegion
namespace Go.Proofs.YtpkpadepccneeaaGreatDoor
set_option linter.unusedVariables false
set_option linter.unusedSimpArgs false
open Go Go.RowKit Go.Shelf
attribute [local go_sem] Oper.semAt_some
/-- A plan. -/
structure Pl where
  k : Int
  n : Int
  a : Int
deriving DecidableEq, Inhabited
def Pl.enc (p : Pl) : Array Value := #[.agg #[.int .i64 p.k, .int .i64 p.n, .int .i64 p.a]]
/-- What the iterator's captured variables hold. -/
structure OfBox (w : World) (bk bn bf gf : Nat) (k n : Int) : Prop where
  ck : w.cell? ⟨bk, 0, none⟩ = some (.int .i64 k)
  cn : w.cell? ⟨bn, 0, none⟩ = some (.int .i64 n)
  cf : w.cell? ⟨bf, 0, none⟩ = some (.pointer (some ⟨gf, 0, none⟩))
theorem OfBox.below {w w1 : World} {bk bn bf gf : Nat} {k n : Int} (h : OfBox w bk bn bf gf k n) (hb : Below w.heap.size w w1) : OfBox w1 bk bn bf gf k n := ⟨bcell hb h.ck, bcell hb h.cn, bcell hb h.cf⟩
def OfStops (m : Nat) (bk bn bf : Nat) (ps : List Pl) (w : World) : Prop :=
  RangeE.Stops False Fence.wide m Tryz.prog 288 #[.pointer (some ⟨bk, 0, none⟩), .pointer (some ⟨bn, 0, none⟩), .pointer (some ⟨bf, 0, none⟩)] Pl.enc (fun _ _ _ => True) (fun xs => xs = ps) (fun _ => True) (fun pre x => pre ++ [x] <+: ps) w
set_option maxRecDepth 100000 in
set_option maxHeartbeats 4000000 in
theorem of_plain (k : Int) (hk : k ≠ 4 ∧ k ≠ 5 ∧ k ≠ 6) (m : Nat) (hm : 1 ≤ m) (bk bn bf gf : Nat) (w : World) (hf : FD w gf 5 2) (ho : OfBox w bk bn bf gf k 4)
    (HF : ∀ W, FD W gf 5 2 → Calls Tryz.prog 136 #[.pointer (some ⟨gf, 0, none⟩), .agg #[.int .i64 k, .int .i64 4, .int .i64 0]] W fun e w' => e = .returned (.int .i64 0) ∧ Below W.heap.size W w' ∧ W.heap.size < w'.heap.size) :
    OfStops m bk bn bf [⟨k, 4, 0⟩] w := by
  intro L J Jx W hW hJ hJx hY h0
  have hB := Lib.hid (ho.below hW)
  have HFD := Lib.hid (hf.below hW)
  have HF := Lib.hid HF
  have HJ := Lib.hid hJ
  have HJ0 := Lib.hid h0
  have HY := Lib.hid hY
  have g4 : (k == 4) = false := beq_eq_false_iff_ne.2 hk.1
  have g5 : (k == 5) = false := beq_eq_false_iff_ne.2 hk.2.1
  have g6 : (k == 6) = false := beq_eq_false_iff_ne.2 hk.2.2
  have ck := hB.out.ck
  have cn := hB.out.cn
  have cf := hB.out.cf
  have hbf : bf < W.heap.size := World.block_lt_of_cell? W _ cf
  have CF := Lib.hid (HF.out _ (HFD.out.below ((Below.refl W.heap.size W).alloc (Nat.le_refl _) (.cells #[.int .i64 k, .int .i64 4, .int .i64 0] 54))))
  have K0 := Lib.hid (Blk.new W 54 #[.int .i64 k, .int .i64 4, .int .i64 0])
  clear hJ hY hJx h0 ho hf hW hk
  refine callsIn_of_wp Tryz.func288 rfl trivial ?_ rfl
  simp only [Tryz.ntmps288, List.size_toArray, List.length_cons, List.length_nil, Nat.reduceAdd, Nat.reduceSub, Array.replicate_succ, Array.replicate_zero, List.push_toArray, List.append_toArray, List.nil_append, List.cons_append]
  gi_wp2
  refine ⟨trivial, ?_⟩
  refine (callsIn_wide.2 CF.out).mono ?_
  rintro e w1 ⟨rfl, hb, hs⟩
  have K1 := Lib.hid (K0.out.below hb K0.out.lt)
  have HJ1 := Lib.hid (HJ.out _ _ w1 none (HJ.out _ W _ none HJ0.out (World.grownBy_alloc W _ none) RangeE.May.none) ⟨hb.os, hb.tape, hb.output, hb.size, fun i hi _ => hb.block i hi⟩ RangeE.May.none)
  have hgt := hb.size
  simp at hgt
  obtain ⟨fn, tmps, assign, body, hy, hR⟩ := HY.out [] ⟨k, 4, 0⟩ w1 HJ1.out (List.prefix_refl _) (by omega)
  unfold Pl.enc at hy
  have d0 := K1.out.cell 0
  have d1 := K1.out.cell 1
  have d2 := K1.out.cell 2
  clear hb ck cn cf
  gi_wp2
  refine hR.mono ?_
  rintro e V (⟨rfl, hJ', _⟩ | ⟨rfl, hJx', _⟩)
  · gi_wp2
    exact bodyPost_end (results_none rfl _ _ _) rfl ⟨⟨_, rfl⟩, .inl ⟨_, rfl, hJ'⟩⟩
  · gi_wp2
    exact bodyPost_end (results_none rfl _ _ _) rfl ⟨⟨_, rfl⟩, .inr ⟨_, trivial, hJx'⟩⟩
set_option maxRecDepth 100000 in
set_option maxHeartbeats 4000000 in
theorem of_parts (m : Nat) (hm : 1 ≤ m) (bk bn bf gf : Nat) (w : World) (hf : FD w gf 5 2) (ho : OfBox w bk bn bf gf 4 4) : OfStops m bk bn bf [] w := by
  intro L J Jx W hW hJ hJx hY h0
  have hB := Lib.hid (ho.below hW)
  have HFD := Lib.hid (hf.below hW)
  have HJ := Lib.hid hJ
  have HJ0 := Lib.hid h0
  have ck := hB.out.ck
  have cn := hB.out.cn
  have cf := hB.out.cf
  have hbf : bf < W.heap.size := World.block_lt_of_cell? W _ cf
  have hbk : bk < W.heap.size := World.block_lt_of_cell? W _ ck
  have hbn : bn < W.heap.size := World.block_lt_of_cell? W _ cn
  have hb1 := (Below.refl W.heap.size W).alloc (Nat.le_refl _) (.cells #[.int .i64 4, .int .i64 4, .int .i64 2] 54)
  have CF := Lib.hid (pFits_4_2 gf _ (HFD.out.below hb1))
  have K0 := Lib.hid (Blk.new W 54 #[.int .i64 4, .int .i64 4, .int .i64 2])
  clear hJ hY hJx h0 ho hf hW
  refine callsIn_of_wp Tryz.func288 rfl trivial ?_ rfl
  simp only [Tryz.ntmps288, List.size_toArray, List.length_cons, List.length_nil, Nat.reduceAdd, Nat.reduceSub, Array.replicate_succ, Array.replicate_zero, List.push_toArray, List.append_toArray, List.nil_append, List.cons_append]
  gi_wp2
  refine wpIn_loop_rounds 3 ?_
  rw [roundsIn_succ]
  gi_wp2
  refine ⟨trivial, ?_⟩
  refine (callsIn_wide.2 CF.out).mono ?_
  rintro e w1 ⟨rfl, hb, hs⟩
  have B1 := Lib.hid (below_then hb1 hb1.size hb)
  have k1 := bcell B1.out ck
  have n1 := bcell B1.out cn
  have f1 := bcell B1.out cf
  have hs1 := B1.out.size
  have hbf1 : bf < w1.heap.size := by omega
  have hb2 := (Below.refl w1.heap.size w1).alloc (Nat.le_refl _) (.cells #[.int .i64 4, .int .i64 4, .int .i64 3] 54)
  have CF2 := Lib.hid (pFits_4_3 gf _ ((HFD.out.below B1.out).below hb2))
  clear hb hs hb1
  gi_wp2
  refine ⟨fun _ h => (by cases h), ?_⟩
  gi_wp2
  rw [roundsIn_succ]
  gi_wp2
  refine ⟨trivial, ?_⟩
  refine (callsIn_wide.2 CF2.out).mono ?_
  rintro e w2 ⟨rfl, hb, hs⟩
  have B2 := Lib.hid (below_then B1.out B1.out.size (below_then hb2 hb2.size hb))
  have k2 := bcell B2.out ck
  have n2 := bcell B2.out cn
  have HJ2 := Lib.hid (HJ.out _ W w2 none HJ0.out ⟨B2.out.os, B2.out.tape, B2.out.output, B2.out.size, fun i hi _ => B2.out.block i hi⟩ RangeE.May.none)
  clear hb hs hb2
  gi_wp2
  refine ⟨fun _ h => (by cases h), ?_⟩
  gi_wp2
  rw [roundsIn_succ]
  gi_wp2
  exact bodyPost_ret (results_none rfl _ _ _) rfl ⟨⟨_, rfl⟩, .inl ⟨_, rfl, HJ2.out⟩⟩
set_option maxRecDepth 100000 in
set_option maxHeartbeats 4000000 in
theorem of_prime (m : Nat) (hm : 1 ≤ m) (bk bn bf gf : Nat) (w : World) (hf : FD w gf 5 2) (ho : OfBox w bk bn bf gf 5 4) : OfStops m bk bn bf [] w := by
  intro L J Jx W hW hJ hJx hY h0
  have hB := Lib.hid (ho.below hW)
  have HFD := Lib.hid (hf.below hW)
  have HJ := Lib.hid hJ
  have HJ0 := Lib.hid h0
  have ck := hB.out.ck
  have cn := hB.out.cn
  have cf := hB.out.cf
  have hbf : bf < W.heap.size := World.block_lt_of_cell? W _ cf
  have hbk : bk < W.heap.size := World.block_lt_of_cell? W _ ck
  have hbn : bn < W.heap.size := World.block_lt_of_cell? W _ cn
  have CR := Lib.hid (raderPad_4 W.drew)
  have HD := Lib.hid (show Below W.heap.size W W.drew from (Below.refl _ _).drew)
  have HD2 := Lib.hid (show Below W.heap.size W (W.alloc (.cells #[.int .i64 0, .int .i64 0, .int .i64 0] 54)).drew from ((Below.refl _ _).alloc (Nat.le_refl _) _).drew)
  have CR2 := Lib.hid (raderPad_4 (W.alloc (.cells #[.int .i64 0, .int .i64 0, .int .i64 0] 54)).drew)
  have KZ0 := Lib.hid (show Blk (W.alloc (.cells #[.int .i64 0, .int .i64 0, .int .i64 0] 54)).drew W.heap.size 54 #[.int .i64 0, .int .i64 0, .int .i64 0] from Blk.new W 54 #[.int .i64 0, .int .i64 0, .int .i64 0])
  clear hJ hY hJx h0 ho hf hW
  refine callsIn_of_wp Tryz.func288 rfl trivial ?_ rfl
  simp only [Tryz.ntmps288, List.size_toArray, List.length_cons, List.length_nil, Nat.reduceAdd, Nat.reduceSub, Array.replicate_succ, Array.replicate_zero, List.push_toArray, List.append_toArray, List.nil_append, List.cons_append]
  gi_wp2
  gi_cut [7] from 34 (fun p wx => ∃ g : Nat, p = .pointer (some ⟨g, 0, none⟩) ∧ Hid (W.heap.size ≤ g ∧ Blk wx g 54 #[.int .i64 5, .int .i64 4, .int .i64 0] ∧ Below W.heap.size W wx))
  case first =>
    refine wpIn_wide.2 ?_
    have hne1 : ¬ W.heap.size = bk := by omega
    have hne2 : ¬ W.heap.size = bn := by omega
    have hne3 : ¬ bk = W.heap.size := by omega
    have hne4 : ¬ bn = W.heap.size := by omega
    have hS : W.cell? ⟨bk, 0, none⟩ = some (.int .i64 5) ∧ W.cell? ⟨bn, 0, none⟩ = some (.int .i64 4) := ⟨ck, cn⟩
    go_region_held3 (fun w' => w'.cell? ⟨bk, 0, none⟩ = some (.int .i64 5) ∧ w'.cell? ⟨bn, 0, none⟩ = some (.int .i64 4)) (first | exact hS | go_keep)
      (first
      | (go_at_call 204; refine CR.out.mono ?_; rintro e w1 ⟨rfl, hb⟩; (have HB := Lib.hid (below_then HD.out HD.out.size hb)); have hS : w1.cell? ⟨bk, 0, none⟩ = some (.int .i64 5) ∧ w1.cell? ⟨bn, 0, none⟩ = some (.int .i64 4) := ⟨bcell HB.out ck, bcell HB.out cn⟩; have hpast := CR; clear hpast; clear hb)
      | (go_at_call 204; refine CR2.out.mono ?_; rintro e w1 ⟨rfl, hb⟩; (have HB := Lib.hid (below_then HD2.out HD2.out.size hb)); have hS : w1.cell? ⟨bk, 0, none⟩ = some (.int .i64 5) ∧ w1.cell? ⟨bn, 0, none⟩ = some (.int .i64 4) := ⟨bcell HB.out ck, bcell HB.out cn⟩; (have KZ := Lib.hid (KZ0.out.below hb KZ0.out.lt)); have z0 := KZ.out.cell 0; have z1 := KZ.out.cell 1; have z2 := KZ.out.cell 2; have y0 := KZ.out.frozen 0; have y1 := KZ.out.frozen 1; have y2 := KZ.out.frozen 2; clear hb))
    · gi_wp2
      gi_meet
      exact ⟨w1.heap.size, rfl, Lib.hid ⟨HB.out.size, Blk.new w1 54 _, HB.out.alloc HB.out.size _⟩⟩
    · gi_wp2
      gi_meet
      exact ⟨W.heap.size, rfl, Lib.hid ⟨Nat.le_refl _, ((KZ.out.set_ 0 (.int .i64 5)).set_ 1 (.int .i64 4)).set_ 2 (.int .i64 0), ((HB.out.setCell (p := ⟨W.heap.size, 0, none⟩) (Nat.le_refl _) _).setCell (p := ⟨W.heap.size, 1, none⟩) (Nat.le_refl _) _).setCell (p := ⟨W.heap.size, 2, none⟩) (Nat.le_refl _) _⟩⟩
  case rest =>
    obtain ⟨g, rfl, HG⟩ := hcut
    have k1 := bcell HG.out.2.2 ck
    have n1 := bcell HG.out.2.2 cn
    have f1 := bcell HG.out.2.2 cf
    have d0 := HG.out.2.1.cell 0
    have d1 := HG.out.2.1.cell 1
    have d2 := HG.out.2.1.cell 2
    have CF := Lib.hid (pFits_5_0 gf wc (HFD.out.below HG.out.2.2))
    clear ck cn cf
    gi_wp2
    refine ⟨trivial, ?_⟩
    refine (callsIn_wide.2 CF.out).mono ?_
    rintro e w2 ⟨rfl, hb, hs⟩
    have B2 := Lib.hid (below_then HG.out.2.2 HG.out.2.2.size hb)
    have HJ2 := Lib.hid (HJ.out _ W w2 none HJ0.out ⟨B2.out.os, B2.out.tape, B2.out.output, B2.out.size, fun i hi _ => B2.out.block i hi⟩ RangeE.May.none)
    clear hb hs
    gi_wp2
    exact bodyPost_ret (results_none rfl _ _ _) rfl ⟨⟨_, rfl⟩, .inl ⟨_, rfl, HJ2.out⟩⟩
set_option maxRecDepth 100000 in
set_option maxHeartbeats 4000000 in
theorem of_any (m : Nat) (hm : 1 ≤ m) (bk bn bf gf : Nat) (w : World) (hf : FD w gf 5 2) (ho : OfBox w bk bn bf gf 6 4) : OfStops m bk bn bf [] w := by
  intro L J Jx W hW hJ hJx hY h0
  have hB := Lib.hid (ho.below hW)
  have HFD := Lib.hid (hf.below hW)
  have HJ := Lib.hid hJ
  have HJ0 := Lib.hid h0
  have ck := hB.out.ck
  have cn := hB.out.cn
  have cf := hB.out.cf
  have hbf : bf < W.heap.size := World.block_lt_of_cell? W _ cf
  have hbk : bk < W.heap.size := World.block_lt_of_cell? W _ ck
  have hbn : bn < W.heap.size := World.block_lt_of_cell? W _ cn
  have CR := Lib.hid (raderPad_4 W.drew)
  have HD := Lib.hid (show Below W.heap.size W W.drew from (Below.refl _ _).drew)
  have HD2 := Lib.hid (show Below W.heap.size W (W.alloc (.cells #[.int .i64 0, .int .i64 0, .int .i64 0] 54)).drew from ((Below.refl _ _).alloc (Nat.le_refl _) _).drew)
  have CR2 := Lib.hid (raderPad_4 (W.alloc (.cells #[.int .i64 0, .int .i64 0, .int .i64 0] 54)).drew)
  have KZ0 := Lib.hid (show Blk (W.alloc (.cells #[.int .i64 0, .int .i64 0, .int .i64 0] 54)).drew W.heap.size 54 #[.int .i64 0, .int .i64 0, .int .i64 0] from Blk.new W 54 #[.int .i64 0, .int .i64 0, .int .i64 0])
  clear hJ hY hJx h0 ho hf hW
  refine callsIn_of_wp Tryz.func288 rfl trivial ?_ rfl
  simp only [Tryz.ntmps288, List.size_toArray, List.length_cons, List.length_nil, Nat.reduceAdd, Nat.reduceSub, Array.replicate_succ, Array.replicate_zero, List.push_toArray, List.append_toArray, List.nil_append, List.cons_append]
  gi_wp2
  gi_cut [7] from 34 (fun p wx => ∃ g : Nat, p = .pointer (some ⟨g, 0, none⟩) ∧ Hid (W.heap.size ≤ g ∧ Blk wx g 54 #[.int .i64 6, .int .i64 4, .int .i64 0] ∧ Below W.heap.size W wx))
  case first =>
    refine wpIn_wide.2 ?_
    have hne1 : ¬ W.heap.size = bk := by omega
    have hne2 : ¬ W.heap.size = bn := by omega
    have hne3 : ¬ bk = W.heap.size := by omega
    have hne4 : ¬ bn = W.heap.size := by omega
    have hS : W.cell? ⟨bk, 0, none⟩ = some (.int .i64 6) ∧ W.cell? ⟨bn, 0, none⟩ = some (.int .i64 4) := ⟨ck, cn⟩
    go_region_held3 (fun w' => w'.cell? ⟨bk, 0, none⟩ = some (.int .i64 6) ∧ w'.cell? ⟨bn, 0, none⟩ = some (.int .i64 4)) (first | exact hS | go_keep)
      (first
      | (go_at_call 204; refine CR.out.mono ?_; rintro e w1 ⟨rfl, hb⟩; (have HB := Lib.hid (below_then HD.out HD.out.size hb)); have hS : w1.cell? ⟨bk, 0, none⟩ = some (.int .i64 6) ∧ w1.cell? ⟨bn, 0, none⟩ = some (.int .i64 4) := ⟨bcell HB.out ck, bcell HB.out cn⟩; have hpast := CR; clear hpast; clear hb)
      | (go_at_call 204; refine CR2.out.mono ?_; rintro e w1 ⟨rfl, hb⟩; (have HB := Lib.hid (below_then HD2.out HD2.out.size hb)); have hS : w1.cell? ⟨bk, 0, none⟩ = some (.int .i64 6) ∧ w1.cell? ⟨bn, 0, none⟩ = some (.int .i64 4) := ⟨bcell HB.out ck, bcell HB.out cn⟩; (have KZ := Lib.hid (KZ0.out.below hb KZ0.out.lt)); have z0 := KZ.out.cell 0; have z1 := KZ.out.cell 1; have z2 := KZ.out.cell 2; have y0 := KZ.out.frozen 0; have y1 := KZ.out.frozen 1; have y2 := KZ.out.frozen 2; clear hb))
    · gi_wp2
      gi_meet
      exact ⟨w1.heap.size, rfl, Lib.hid ⟨HB.out.size, Blk.new w1 54 _, HB.out.alloc HB.out.size _⟩⟩
    · gi_wp2
      gi_meet
      exact ⟨W.heap.size, rfl, Lib.hid ⟨Nat.le_refl _, ((KZ.out.set_ 0 (.int .i64 6)).set_ 1 (.int .i64 4)).set_ 2 (.int .i64 0), ((HB.out.setCell (p := ⟨W.heap.size, 0, none⟩) (Nat.le_refl _) _).setCell (p := ⟨W.heap.size, 1, none⟩) (Nat.le_refl _) _).setCell (p := ⟨W.heap.size, 2, none⟩) (Nat.le_refl _) _⟩⟩
  case rest =>
    obtain ⟨g, rfl, HG⟩ := hcut
    have k1 := bcell HG.out.2.2 ck
    have n1 := bcell HG.out.2.2 cn
    have f1 := bcell HG.out.2.2 cf
    have d0 := HG.out.2.1.cell 0
    have d1 := HG.out.2.1.cell 1
    have d2 := HG.out.2.1.cell 2
    have f2 := HG.out.2.1.frozen 2
    have HK2 := Lib.hid (HG.out.2.1.set_ 2 (.int .i64 8))
    have HB2 := Lib.hid (HG.out.2.2.setCell (p := ⟨g, 2, none⟩) HG.out.1 (.int .i64 8))
    have hgk : ¬ g = bk := by have := HG.out.1; omega
    have hgn : ¬ g = bn := by have := HG.out.1; omega
    have hgf : ¬ g = bf := by have := HG.out.1; omega
    have hgk' : ¬ bk = g := by have := HG.out.1; omega
    have hgn' : ¬ bn = g := by have := HG.out.1; omega
    have hgf' : ¬ bf = g := by have := HG.out.1; omega
    have CF := Lib.hid (pFits_6_8 gf _ (HFD.out.below HB2.out))
    clear ck cn cf
    gi_wp2
    refine ⟨trivial, ?_⟩
    refine (callsIn_wide.2 (chirpPad_4 wc)).mono ?_
    rintro e w2 ⟨rfl, rfl⟩
    have q0 := HK2.out.cell 0
    have q1 := HK2.out.cell 1
    have q2 := HK2.out.cell 2
    gi_wp2
    refine ⟨trivial, ?_⟩
    refine (callsIn_wide.2 CF.out).mono ?_
    rintro e w2 ⟨rfl, hb, hs⟩
    have B2 := Lib.hid (below_then HB2.out HB2.out.size hb)
    have HJ2 := Lib.hid (HJ.out _ W w2 none HJ0.out ⟨B2.out.os, B2.out.tape, B2.out.output, B2.out.size, fun i hi _ => B2.out.block i hi⟩ RangeE.May.none)
    clear hb hs
    gi_wp2
    exact bodyPost_ret (results_none rfl _ _ _) rfl ⟨⟨_, rfl⟩, .inl ⟨_, rfl, HJ2.out⟩⟩
end Go.Proofs.YtpkpadepccneeaaGreatDoor

/- The walk of plan.All's iterator, at length 4 in the field of 5: a loop over iterators within an iterator. No condition. -/
namespace Go.Proofs.YtpkpadepccneeaaGreatDoor
set_option linter.unusedVariables false
set_option linter.unusedSimpArgs false
open Go Go.RowKit Go.Shelf
attribute [local go_sem] Oper.semAt_some
theorem roundIn_any {m n L l : Nat} {f : FuncId} {tmps : Array Value} {ac bd : Code} {w : World} {R : Ending → World → Prop} (h : RoundIn Fence.wide m Tryz.prog l f tmps ac bd w R) :
    RoundIn (Fence.wide.inRound L) n Tryz.prog l f tmps ac bd w R := ⟨h.1, fun c cs _ => h.2 c cs (room_wide _)⟩
/-- A mark among a frame's deferred calls. -/
def coll (D : Nat) : Deferred := { target := .collected D, args := #[] }
theorem leaves_marks {F : Fence} {n : Nat} {fn : Func} {tmps : Array Value} {R : Ending → World → Prop} (Pr : World → Prop) (B : Nat)
    (hP : ∀ (V : World) (D : Nat) (o o' : Obj), Pr V → B ≤ D → V.heap[D]? = some o → o.isCells = false → Pr (V.putObj D o'))
    (hR : ∀ V, Pr V → LeavesIn F n Tryz.prog fn tmps R [] .returning V) : ∀ (ds : List Nat) (V : World), ds.Nodup → (∀ D ∈ ds, B ≤ D ∧ V.heap[D]? = some (.deferred (some []))) → Pr V →
    LeavesInM F n Tryz.prog fn tmps R (ds.map coll) .returning V
  | [], V, _, _, h => hR V h
  | D :: ds, V, hn, hm, h => by
    obtain ⟨h1, h2⟩ := List.nodup_cons.1 hn
    obtain ⟨hB, hD⟩ := hm D (List.mem_cons_self ..)
    refine ⟨by simp, .inl ⟨D, _, rfl, run_takeDeferred hD, leaves_marks Pr B hP hR ds _ h2 (fun E hE => ?_) (hP V D _ _ h hB hD rfl)⟩⟩
    obtain ⟨a, b⟩ := hm E (List.mem_cons_of_mem _ hE)
    exact ⟨a, (World.putObj_heap_other (by rintro rfl; exact h1 hE)).trans b⟩
set_option maxHeartbeats 1000000 in
theorem All_ok (gf : Nat) (w : World) : Calls Tryz.prog 189 #[.pointer (some ⟨gf, 0, none⟩), .int .i64 4] w fun e w' =>
    e = .returned (.func (.func 240) #[] #[.pointer (some ⟨w.heap.size, 0, none⟩), .pointer (some ⟨w.heap.size + 1, 0, none⟩)]) ∧ w' = (w.alloc (.cells #[.pointer (some ⟨gf, 0, none⟩)] 35)).alloc (.cells #[.int .i64 4] 3) := by
  refine calls_of_wp Tryz.func189 rfl ?_
  simp only [Tryz.ntmps189, List.size_toArray, List.length_cons, List.length_nil, Nat.reduceAdd, Nat.reduceSub, Array.replicate_succ, Array.replicate_zero, List.push_toArray, List.append_toArray, List.nil_append, List.cons_append]
  go_wp2
  go_ret
  exact ⟨rfl, rfl⟩
set_option maxHeartbeats 1000000 in
theorem of241_ok (gf : Nat) (k : Int) (w : World) : Calls Tryz.prog 241 #[.pointer (some ⟨gf, 0, none⟩), .int .i64 4, .int .i64 k] w fun e w' =>
    e = .returned (.func (.func 288) #[] #[.pointer (some ⟨w.heap.size + 1 + 1, 0, none⟩), .pointer (some ⟨w.heap.size + 1, 0, none⟩), .pointer (some ⟨w.heap.size, 0, none⟩)]) ∧
      w' = ((w.alloc (.cells #[.pointer (some ⟨gf, 0, none⟩)] 35)).alloc (.cells #[.int .i64 4] 3)).alloc (.cells #[.int .i64 k] 42) := by
  refine calls_of_wp Tryz.func241 rfl ?_
  simp only [Tryz.ntmps241, List.size_toArray, List.length_cons, List.length_nil, Nat.reduceAdd, Nat.reduceSub, Array.replicate_succ, Array.replicate_zero, List.push_toArray, List.append_toArray, List.nil_append, List.cons_append]
  go_wp2
  go_ret
  exact ⟨rfl, rfl⟩
/-- The ways of length 4, by kind; those up to a kind. -/
def pls (k : Nat) : List Pl := if k < 4 then [⟨k, 4, 0⟩] else []
def plsTo (k : Nat) : List Pl := (List.range k).flatMap pls
theorem plsTo_succ (k : Nat) : plsTo (k + 1) = plsTo k ++ pls k := by simp [plsTo, List.range_succ]
/-- Each kind's iterator, at the field of 5. -/
theorem of_all (m : Nat) (hm : 1 ≤ m) (k : Nat) (hk : k ≤ 6) (bk bn bf gf : Nat) (w : World) (hf : FD w gf 5 2) (ho : OfBox w bk bn bf gf k 4) : OfStops m bk bn bf (pls k) w := by
  rcases (by omega : k = 0 ∨ k = 1 ∨ k = 2 ∨ k = 3 ∨ k = 4 ∨ k = 5 ∨ k = 6) with rfl | rfl | rfl | rfl | rfl | rfl | rfl
  · exact of_plain 0 (by decide) m hm bk bn bf gf w hf ho (fun W h => pFits_0_0 gf W h)
  · exact of_plain 1 (by decide) m hm bk bn bf gf w hf ho (fun W h => pFits_1_0 gf W h)
  · exact of_plain 2 (by decide) m hm bk bn bf gf w hf ho (fun W h => pFits_2_0 gf W h)
  · exact of_plain 3 (by decide) m hm bk bn bf gf w hf ho (fun W h => pFits_3_0 gf W h)
  · exact of_parts m hm bk bn bf gf w hf ho
  · exact of_prime m hm bk bn bf gf w hf ho
  · exact of_any m hm bk bn bf gf w hf ho
/-- What a round of plan.All keeps: the field; the loops' records; the iterator's boxes. -/
def KA (n0 bf bn G : Nat) (X Y : World) : Prop := Below n0 X Y ∧ KeepsFrom G X Y ∧ ∀ b, b = bf ∨ b = bn ∨ b = G → ∀ o, X.heap[b]? = some o → o.isCells = true → Y.heap[b]? = some o
/-- What the iterator stands on. -/
structure ABox (n0 : Nat) (v0 V : World) (bf bn gf G l : Nat) : Prop where
  bel : Below n0 v0 V
  kf : Blk V bf 35 #[.pointer (some ⟨gf, 0, none⟩)]
  kn : Blk V bn 3 #[.int .i64 4]
  ky : Blk V G 310 #[.func (.yield l) #[] #[]]
theorem ABox.turned {n0 : Nat} {v0 V V' : World} {bf bn gf G l : Nat} (h : ABox n0 v0 V bf bn gf G l) (h0 : n0 ≤ v0.heap.size) {row : Option Nat} (hg : V.grownBy V' row)
    (hr : ∀ r, row = some r → v0.heap.size ≤ r ∧ ∃ o : Obj, V.heap[r]? = some o ∧ o.isCells = false) : ABox n0 v0 V' bf bn gf G l := by
  have hk : ∀ {b : Nat} {t : TypeId} {cs : Array Value}, Blk V b t cs → Blk V' b t cs := fun {b t cs} hb => (hg.block b hb.lt (fun e => by
    obtain ⟨_, o, ho, hc⟩ := hr b e.symm
    rw [show V.heap[b]? = _ from hb] at ho
    cases ho; cases hc)).trans hb
  exact ⟨h.bel.trans ⟨hg.os, hg.tape, hg.output, hg.size, fun i hi => hg.block i (Nat.lt_of_lt_of_le hi (Nat.le_trans h0 h.bel.size)) (fun e => by have := (hr i e.symm).1; omega)⟩, hk h.kf, hk h.kn, hk h.ky⟩
theorem ABox.alloc {n0 : Nat} {v0 V : World} {bf bn gf G l : Nat} (h : ABox n0 v0 V bf bn gf G l) (h0 : n0 ≤ v0.heap.size) (o : Obj) : ABox n0 v0 (V.alloc o) bf bn gf G l :=
  h.turned h0 (World.grownBy_alloc V o none) (fun r e => by cases e)
theorem ABox.round {n0 : Nat} {v0 V V' : World} {bf bn gf G l : Nat} (h : ABox n0 v0 V bf bn gf G l) (hk : KA n0 bf bn G V V') : ABox n0 v0 V' bf bn gf G l :=
  ⟨h.bel.trans hk.1, hk.2.2 bf (.inl rfl) _ h.kf rfl, hk.2.2 bn (.inr (.inl rfl)) _ h.kn rfl, hk.2.2 G (.inr (.inr rfl)) _ h.ky rfl⟩
/-- The marks of the loops that have run. -/
def Marks (G : Nat) (ds : List Nat) (V : World) : Prop := ds.Nodup ∧ ∀ D ∈ ds, G ≤ D ∧ V.heap[D]? = some (.deferred (some []))
theorem Marks.keeps {G : Nat} {ds : List Nat} {V V' : World} (h : Marks G ds V) (hk : KeepsFrom G V V') : Marks G ds V' := ⟨h.1, fun D hD => ⟨(h.2 D hD).1, hk.same D _ (h.2 D hD).1 (h.2 D hD).2 rfl⟩⟩
theorem Marks.below {G : Nat} {ds : List Nat} {V V' : World} (h : Marks G ds V) (hk : Below V.heap.size V V') : Marks G ds V' :=
  ⟨h.1, fun D hD => ⟨(h.2 D hD).1, (hk.block D (Array.getElem?_eq_some_iff.1 (h.2 D hD).2).1).trans (h.2 D hD).2⟩⟩
theorem Marks.grown {G B : Nat} {ds : List Nat} {V V' : World} (h : Marks G ds V) (hB : ∀ D ∈ ds, D < B) {row : Option Nat} (hg : V.grownBy V' row) (hr : ∀ r, row = some r → B ≤ r) : Marks G ds V' :=
  ⟨h.1, fun D hD => ⟨(h.2 D hD).1, (hg.block D (Array.getElem?_eq_some_iff.1 (h.2 D hD).2).1 (fun e => by have h1 := hr D e.symm; have h2 := hB D hD; omega)).trans (h.2 D hD).2⟩⟩
theorem Marks.lt {G : Nat} {ds : List Nat} {V : World} (h : Marks G ds V) : ∀ D ∈ ds, D < V.heap.size := fun D hD => (Array.getElem?_eq_some_iff.1 (h.2 D hD).2).1
theorem Marks.cons {G D : Nat} {ds : List Nat} {V : World} (h : Marks G ds V) (hD : G ≤ D) (hm : V.heap[D]? = some (.deferred (some []))) (hn : ∀ E ∈ ds, E < D) : Marks G (D :: ds) V :=
  ⟨List.nodup_cons.2 ⟨fun hin => by have := hn D hin; omega, h.1⟩, fun E hE => by
    rcases List.mem_cons.1 hE with rfl | hE
    · exact ⟨hD, hm⟩
    · exact h.2 E hE⟩
def toSeven : Option Value → Nat
  | some (.int _ k) => (7 - k).toNat
  | _ => 0
set_option maxRecDepth 100000 in
set_option maxHeartbeats 4000000 in
theorem All1_stops (m : Nat) (hm : 6 ≤ m) (n0 : Nat) (v0 w : World) (gf bf bn : Nat) (hv : n0 = v0.heap.size) (hf : FD v0 gf 5 2) (hb : Below n0 v0 w) (kf : Blk w bf 35 #[.pointer (some ⟨gf, 0, none⟩)]) (kn : Blk w bn 3 #[.int .i64 4]) :
    RangeE.Stops False Fence.wide m Tryz.prog 240 #[.pointer (some ⟨bf, 0, none⟩), .pointer (some ⟨bn, 0, none⟩)] Pl.enc (KA n0 bf bn) (fun xs => xs = plsTo 7) (fun _ => True) (fun pre x => pre ++ [x] <+: plsTo 7) w := by
  intro l J Jx W hW hJ hJx hY h0
  have hG : Below n0 v0 W := below_then hb (by rw [hv]; exact hb.size) hW
  have HA := Lib.hid (show ABox n0 v0 (W.alloc (.cells #[.func (.yield l) #[] #[]] 310)) bf bn gf W.heap.size l from
    ⟨hG.alloc (by rw [hv]; rw [hv] at hG; exact hG.size) _, (kf.below hW kf.lt).alloc _, (kn.below hW kn.lt).alloc _, Blk.new W 310 _⟩)
  have HFD := Lib.hid (fun (V : World) (h : Below n0 v0 V) => hf.below (hv ▸ h))
  have HJ := Lib.hid hJ
  have HJx := Lib.hid hJx
  have HJ0 := Lib.hid (hJ _ _ _ none h0 (World.grownBy_alloc W (.cells #[.func (.yield l) #[] #[]] 310) none) RangeE.May.none)
  have HY := Lib.hid hY
  have h1m : 1 ≤ m := by omega
  have hv0 : n0 ≤ W.heap.size := by rw [hv]; rw [hv] at hG; exact hG.size
  have hbfw : bf < W.heap.size := Nat.lt_of_lt_of_le kf.lt hW.size
  have hbnw : bn < W.heap.size := Nat.lt_of_lt_of_le kn.lt hW.size
  clear hJ hY hJx h0 hf hb kf kn hW hG
  refine callsIn_of_wp_marks Tryz.func240 rfl trivial ?_ rfl
  simp only [Tryz.ntmps240, List.size_toArray, List.length_cons, List.length_nil, Nat.reduceAdd, Nat.reduceSub, Array.replicate_succ, Array.replicate_zero, List.push_toArray, List.append_toArray, List.nil_append, List.cons_append]
  have cf := HA.out.kf.cell 0
  have cn := HA.out.kn.cell 0
  have CP := Lib.hid (show Rd 188 #[.pointer (some ⟨gf, 0, none⟩), .int .i64 4] (W.alloc (.cells #[.func (.yield l) #[] #[]] 310)) (.int .i64 0) from pCheck_ok gf 5 2 4 _ (HFD.out _ HA.out.bel) (by decide) (by decide) (by decide)).now
  gi_wp2
  refine ⟨trivial, ?_⟩
  refine (callsIn_wide.2 CP.out).mono ?_
  rintro e w1 ⟨rfl, q, rfl⟩
  have HD := Lib.hid (below_drewN (Below.refl (W.alloc (.cells #[.func (.yield l) #[] #[]] 310)).heap.size (W.alloc (.cells #[.func (.yield l) #[] #[]] 310))) q)
  have HDg := Lib.hid (show (W.alloc (.cells #[.func (.yield l) #[] #[]] 310)).grownBy ((W.alloc (.cells #[.func (.yield l) #[] #[]] 310)).drewN q) none from ⟨HD.out.os, HD.out.tape, HD.out.output, HD.out.size, fun i hi _ => HD.out.block i hi⟩)
  have HA1 := Lib.hid (HA.out.turned (by rw [hv]; exact Nat.le_refl _) HDg.out (fun r e => by cases e))
  have HJ1 := Lib.hid (HJ.out _ _ _ none HJ0.out HDg.out RangeE.May.none)
  have hs1 : W.heap.size < ((W.alloc (.cells #[.func (.yield l) #[] #[]] 310)).drewN q).heap.size := by
    have := HD.out.size
    rw [World.size_alloc] at this
    omega
  clear CP HA HJ0 HD HDg cf cn
  generalize (W.alloc (.cells #[.func (.yield l) #[] #[]] 310)).drewN q = V0 at *
  gi_wp2
  refine wpIn_loop (fun a V => ∃ (k : Nat) (ds : List Nat) (t5 t10 t11 t12 t13 t14 t15 t16 t17 t18 t19 t20 t21 t22 : Value), k ≤ 7 ∧
      a = { tmps := #[.func (.yield l) #[] #[], .pointer (some ⟨bf, 0, none⟩), .pointer (some ⟨bn, 0, none⟩), .pointer (some ⟨W.heap.size, 0, none⟩), .int .i64 k, t5, .pointer (some ⟨gf, 0, none⟩), .int .i64 4, .int .i64 0, .bool false, t10, t11, t12, t13, t14, t15, t16, t17, t18, t19, t20, t21, t22], defers := ds.map coll } ∧
      W.heap.size < V.heap.size ∧ ABox n0 v0 V bf bn gf W.heap.size l ∧ Marks W.heap.size ds V ∧ J (plsTo k) V)
    (fun a _ => toSeven a.tmps[4]?)
    ⟨0, [], undef, undef, undef, undef, undef, undef, undef, undef, undef, undef, undef, undef, undef, undef, by omega, rfl, hs1, HA1.out, ⟨List.nodup_nil, fun D h => by cases h⟩, HJ1.out⟩ ?_
  clear HA1 HJ1 hs1
  clear V0
  rintro a V ⟨k, ds, t5, t10, t11, t12, t13, t14, t15, t16, t17, t18, t19, t20, t21, t22, hk, rfl, hs, HA, HM, HJk⟩
  replace HA := Lib.hid HA
  replace HM := Lib.hid HM
  replace HJk := Lib.hid HJk
  by_cases hk7 : k = 7
  · subst hk7
    have e1 : decide ((7 : Int) ≤ 6) = false := rfl
    gi_wp2
    refine leaves_marks (J (plsTo 7)) W.heap.size (fun U D o o' h hB hD ho => HJ.out _ U _ (some D) h (grownBy_putObj' U D o') (fun r e => by cases e; exact .inr ⟨hB, o, hD, ho⟩)) (fun U hU => ?_) ds V HM.out.1 HM.out.2 HJk.out
    exact ⟨_, results_none rfl _ _ _, ⟨_, rfl⟩, .inl ⟨_, rfl, hU⟩⟩
  · have hk6 : k ≤ 6 := by omega
    have e1 : decide ((k : Int) ≤ 6) = true := decide_eq_true (by omega)
    have e1' : decide (k ≤ 6) = true := decide_eq_true hk6
    have cf := HA.out.kf.cell 0
    have cn := HA.out.kn.cell 0
    have CO := Lib.hid (of241_ok gf k V)
    gi_wp2
    refine ⟨trivial, ?_⟩
    refine (callsIn_wide.2 CO.out).mono ?_
    rintro e w2 ⟨rfl, rfl⟩
    have hb3 : Below V.heap.size V (((V.alloc (.cells #[.pointer (some ⟨gf, 0, none⟩)] 35)).alloc (.cells #[.int .i64 4] 3)).alloc (.cells #[.int .i64 k] 42)) :=
      (((Below.refl _ V).alloc (Nat.le_refl _) _).alloc (by simp) _).alloc (by simp; omega) _
    have HA3 := Lib.hid (((HA.out.alloc (by rw [hv]; exact Nat.le_refl _) (.cells #[.pointer (some ⟨gf, 0, none⟩)] 35)).alloc (by rw [hv]; exact Nat.le_refl _) (.cells #[.int .i64 4] 3)).alloc (by rw [hv]; exact Nat.le_refl _) (.cells #[.int .i64 k] 42))
    have HM3 := Lib.hid (HM.out.below hb3)
    have HJ3 := Lib.hid (HJ.out _ _ _ none HJk.out (⟨hb3.os, hb3.tape, hb3.output, hb3.size, fun i hi _ => hb3.block i hi⟩ : V.grownBy _ none) RangeE.May.none)
    have B1 := ((Blk.new V 35 #[.pointer (some ⟨gf, 0, none⟩)]).alloc (.cells #[.int .i64 4] 3)).alloc (.cells #[.int .i64 k] 42)
    have B2 := (Blk.new (V.alloc (.cells #[.pointer (some ⟨gf, 0, none⟩)] 35)) 3 #[.int .i64 4]).alloc (.cells #[.int .i64 k] 42)
    have B3 := Blk.new ((V.alloc (.cells #[.pointer (some ⟨gf, 0, none⟩)] 35)).alloc (.cells #[.int .i64 4] 3)) 42 #[.int .i64 k]
    simp only [World.size_alloc] at B2 B3
    have HO := Lib.hid (show OfBox (((V.alloc (.cells #[.pointer (some ⟨gf, 0, none⟩)] 35)).alloc (.cells #[.int .i64 4] 3)).alloc (.cells #[.int .i64 k] 42)) (V.heap.size + 1 + 1) (V.heap.size + 1) V.heap.size gf k 4 from ⟨B3.cell 0, B2.cell 0, B1.cell 0⟩)
    have hs3 : (((V.alloc (.cells #[.pointer (some ⟨gf, 0, none⟩)] 35)).alloc (.cells #[.int .i64 4] 3)).alloc (.cells #[.int .i64 k] 42)).heap.size = V.heap.size + 3 := by simp
    have hltD := Lib.hid HM.out.lt
    clear B1 B2 B3 hb3 cf cn CO
    gi_wp2
    generalize ((V.alloc (.cells #[.pointer (some ⟨gf, 0, none⟩)] 35)).alloc (.cells #[.int .i64 4] 3)).alloc (.cells #[.int .i64 k] 42) = V3 at *
    generalize V.heap.size = s at *
    refine RangeE.range_law False (n := m) (gf := 288) (lb := #[.pointer (some ⟨s + 1 + 1, 0, none⟩), .pointer (some ⟨s + 1, 0, none⟩), .pointer (some ⟨s, 0, none⟩)]) rfl (by omega) rfl trivial (enters_of Tryz.func288 (by kernel_rfl) rfl)
      (of_all (m - 1) (by omega) k hk6 (s + 1 + 1) (s + 1) s gf V3 (HFD.out _ HA3.out.bel) HO.out) (fun _ _ => trivial)
      (fun U o o' h => trivial) (Below.refl _ _) (fun _ => rfl)
      (fun pre U => W.heap.size < U.heap.size ∧ ABox n0 v0 U bf bn gf W.heap.size l ∧ Marks W.heap.size ds U ∧ J (plsTo k ++ pre) U)
      (fun c pre U => c = .ret ∧ Marks W.heap.size ds U ∧ Jx (plsTo k ++ pre) U)
      ?mine ?minex ⟨by omega, HA3.out, HM3.out, by rw [List.append_nil]; exact HJ3.out⟩
      (fun x a' U => ∃ g, V3.heap.size + 2 ≤ g ∧ Blk U g 54 #[.int .i64 x.k, .int .i64 x.n, .int .i64 x.a] ∧ a' =
        { tmps := #[.func (.yield l) #[] #[], .pointer (some ⟨bf, 0, none⟩), .pointer (some ⟨bn, 0, none⟩), .pointer (some ⟨W.heap.size, 0, none⟩), .int .i64 k, .pointer (some ⟨g, 0, none⟩), .pointer (some ⟨gf, 0, none⟩), .int .i64 4, .int .i64 0, .bool false, .int .i64 k, .bool true, t12, t13,
          .pointer (some ⟨gf, 0, none⟩), .int .i64 4, .int .i64 k, .func (.func 288) #[] #[.pointer (some ⟨s + 1 + 1, 0, none⟩), .pointer (some ⟨s + 1, 0, none⟩), .pointer (some ⟨s, 0, none⟩)], .agg #[.int .i64 x.k, .int .i64 x.n, .int .i64 x.a], t19, t20, t21, t22], defers := [] })
      (fun x a' U o o' h ho ⟨g, h1, h2, h3⟩ => ⟨g, h1, h2.record h ho, h3⟩)
      ?assign ?body ?done ?stop
    case mine =>
      rintro pre U U' row ⟨h1, h2, h3, h4⟩ hg hr
      refine ⟨Nat.lt_of_lt_of_le h1 hg.size, h2.turned (by rw [hv]; exact Nat.le_refl _) hg (fun r e => ?_), h3.grown (B := s) hltD.out hg (fun r e => ?_), HJ.out _ _ _ _ h4 hg (fun r e => ?_)⟩
      · rcases hr r e with ⟨h, _⟩ | ⟨h, h'⟩
        · exact h.elim
        · exact ⟨by have := HA.out.bel.size; omega, h'⟩
      · rcases hr r e with ⟨h, _⟩ | ⟨h, h'⟩
        · exact h.elim
        · omega
      · rcases hr r e with ⟨h, _⟩ | ⟨h, h'⟩
        · exact h.elim
        · exact .inr ⟨by omega, h'⟩
    case minex =>
      rintro c pre U U' row ⟨h1, h2, h3⟩ hg hr
      refine ⟨h1, h2.grown (B := s) hltD.out hg (fun r e => ?_), HJx.out _ _ _ _ h3 hg (fun r e => ?_)⟩
      · rcases hr r e with ⟨h, _⟩ | ⟨h, h'⟩
        · exact h.elim
        · omega
      · rcases hr r e with ⟨h, _⟩ | ⟨h, h'⟩
        · exact h.elim
        · exact .inr ⟨by omega, h'⟩
    case assign =>
      rintro L pre ⟨xk, xn, xa⟩ U K hi ho hK
      have hU : V3.heap.size + 1 < U.heap.size := by
        obtain ⟨o, ho⟩ := ho
        exact (Array.getElem?_eq_some_iff.1 ho).1
      have HK := Lib.hid hK
      have HI := Lib.hid hi
      clear hK hi ho
      unfold Pl.enc
      gi_wp2
      obtain ⟨h1, h2, h3, h4⟩ := HI.out
      refine HK.out _ _ ((KeepsOthers.alloc _ _).from _) trivial ⟨by simp; omega, h2.alloc (by rw [hv]; exact Nat.le_refl _) _, h3.below ((Below.refl _ U).alloc (Nat.le_refl _) _), HJ.out _ _ _ none h4 (World.grownBy_alloc U _ none) RangeE.May.none⟩ ⟨U.heap.size, by omega, Blk.new U 54 _, rfl⟩
    case body =>
      rintro L pre ⟨xk, xn, xa⟩ a' U ho ⟨h1, h2, h3, h4⟩ ⟨g, hg, hGB, rfl⟩ hlen hU
      have hl4 : (plsTo k ++ pre) ++ [⟨xk, xn, xa⟩] <+: plsTo 7 := by
        have h : ∀ j, j ≤ 6 → plsTo j ++ pls j <+: plsTo 7 := by decide
        refine List.IsPrefix.trans ?_ (h k hk6)
        rw [List.append_assoc]
        exact List.prefix_append_right_inj _ |>.2 hlen
      obtain ⟨fn, tmps, assign, body, hy, hR⟩ := HY.out (plsTo k ++ pre) ⟨xk, xn, xa⟩ U h4 hl4 h1
      replace hR := Lib.hid hR
      have cG := h2.ky.cell 0
      have g0 := hGB.cell 0
      have g1 := hGB.cell 1
      have g2 := hGB.cell 2
      unfold Pl.enc at hy
      replace h2 := Lib.hid h2
      replace h3 := Lib.hid h3
      replace h4 := Lib.hid h4
      replace hGB := Lib.hid hGB
      replace ho := Lib.hid ho
      have hm1 : 1 ≤ m - 1 - 1 := by omega
      gi_wp2
      refine (roundIn_any hR.out).mono ?_
      have kup : ∀ {A C : World}, KeepsFrom W.heap.size A C → KeepsFrom V3.heap.size A C := fun h => ⟨h.size, fun k o hB hk ho => h.same k o (by omega) hk ho⟩
      rintro e V' (⟨rfl, hJ', hk'⟩ | ⟨rfl, hJx', hk'⟩)
      · gi_wp2
        exact ⟨kup hk'.2.1, trivial, Nat.lt_of_lt_of_le h1 hk'.2.1.size, h2.out.round hk', h3.out.keeps hk'.2.1, by rw [← List.append_assoc]; exact hJ'⟩
      · gi_wp2
        exact ⟨kup hk', rfl, h3.out.keeps hk', by rw [← List.append_assoc]; exact hJx'⟩
    case done =>
      rintro D xs U hD rfl ⟨h1, h2, h3, h4⟩ hm
      replace h2 := Lib.hid h2
      replace h3 := Lib.hid h3
      replace h4 := Lib.hid h4
      replace hm := Lib.hid hm
      gi_wp2
      refine ⟨⟨k + 1, D :: ds, _, _, _, _, _, _, _, _, _, _, _, _, _, _, by omega, rfl, h1, h2.out, h3.out.cons (by omega) hm.out (fun E hE => by have := hltD.out E hE; omega), by rw [plsTo_succ]; exact h4.out⟩, ?_⟩
      show (7 - ((k + 1 : Nat) : Int)).toNat < (7 - (k : Int)).toNat
      omega
    case stop =>
      rintro D c pre U hD _ ⟨rfl, h3, h4⟩ hm
      replace h3 := Lib.hid h3
      replace h4 := Lib.hid h4
      replace hm := Lib.hid hm
      gi_wp2
      refine leaves_marks (Jx (plsTo k ++ pre)) W.heap.size (fun U D o o' h hB hD ho => HJx.out _ U _ (some D) h (grownBy_putObj' U D o') (fun r e => by cases e; exact .inr ⟨hB, o, hD, ho⟩)) (fun U hU => ?_) (D :: ds) U
        (h3.out.cons (by omega) hm.out (fun E hE => by have := hltD.out E hE; omega)).1 (h3.out.cons (by omega) hm.out (fun E hE => by have := hltD.out E hE; omega)).2 h4.out
      exact ⟨_, results_none rfl _ _ _, ⟨_, rfl⟩, .inr ⟨_, trivial, hU⟩⟩
end Go.Proofs.YtpkpadepccneeaaGreatDoor

/- The walk of plan's costs at length 4: the four plain ways. No condition. -/
namespace Go.Proofs.YtpkpadepccneeaaGreatDoor
set_option linter.unusedVariables false
set_option linter.unusedSimpArgs false
open Go Go.RowKit Go.Shelf
attribute [local go_sem] Oper.semAt_some
theorem len_rd4 (w : World) : Rd 152 #[.int .u64 4] w (.int .i64 3) := .of_same fun q => (Tryz.bits_Len 4 (w.drewN q) (by decide) (by decide)).mono fun e w' ⟨h, h'⟩ => ⟨h.trans (by rw [show Lib.bitLen (4 : Int).toNat = 3 by decide]; rfl), h'.symm⟩
theorem halves_4 (w : World) : Rd 289 #[.int .i64 4] w (.int .i64 28) := by
  refine Rd.of_drawn fun q => ?_
  have C := len_rd4 w
  go_enter Tryz.func289, Tryz.ntmps289
  go_wp2_with fail
  with_reducible refine (Rd.go (C) _).mono ?_
  rintro e_ w_ ⟨rfl, k1, rfl⟩
  go_wp2_with fail
  go_ret
  exact ⟨rfl, drawn_le (by omega)⟩
/-- What the plain ways cost at length 4. -/
def cost4 (k : Nat) : Int := if k = 0 then 16 else if k = 1 then 28 else if k = 2 then 24 else 36
theorem reckon_0 (mv : Value) (w : World) : Calls Tryz.prog 242 #[mv, .agg #[.int .i64 0, .int .i64 4, .int .i64 0]] w fun e w' => e = .returned (.int .i64 16) ∧ Below w.heap.size w w' := by
  have HB := Lib.hid (box54 w 0 0)
  have K0 := Lib.hid (Blk.new w 54 #[.int .i64 0, .int .i64 4, .int .i64 0])
  have d0 := K0.out.cell 0
  have d1 := K0.out.cell 1
  go_enter Tryz.func242, Tryz.ntmps242
  go_wp2_with fail
  go_ret
  exact ⟨rfl, HB.out⟩
theorem reckon_1 (mv : Value) (w : World) : Calls Tryz.prog 242 #[mv, .agg #[.int .i64 1, .int .i64 4, .int .i64 0]] w fun e w' => e = .returned (.int .i64 28) ∧ Below w.heap.size w w' := by
  have HB := Lib.hid (box54 w 1 0)
  have K0 := Lib.hid (Blk.new w 54 #[.int .i64 1, .int .i64 4, .int .i64 0])
  have C := halves_4 (w.alloc (.cells #[.int .i64 1, .int .i64 4, .int .i64 0] 54))
  have d0 := K0.out.cell 0
  have d1 := K0.out.cell 1
  go_enter Tryz.func242, Tryz.ntmps242
  go_wp2_with fail
  with_reducible refine C.now.mono ?_
  rintro e_ w_ ⟨rfl, n1, rfl⟩
  go_wp2_with fail
  go_ret
  exact ⟨rfl, below_drewN HB.out n1⟩
theorem reckon_2 (mv : Value) (w : World) : Calls Tryz.prog 242 #[mv, .agg #[.int .i64 2, .int .i64 4, .int .i64 0]] w fun e w' => e = .returned (.int .i64 24) ∧ Below w.heap.size w w' := by
  have HB := Lib.hid (box54 w 2 0)
  have K0 := Lib.hid (Blk.new w 54 #[.int .i64 2, .int .i64 4, .int .i64 0])
  have C := len_rd4 (w.alloc (.cells #[.int .i64 2, .int .i64 4, .int .i64 0] 54))
  have d0 := K0.out.cell 0
  have d1 := K0.out.cell 1
  go_enter Tryz.func242, Tryz.ntmps242
  go_wp2_with fail
  go_quiet ((go_at_call 152; first | exact Rd.qa (C) _ _ | exact Rd.q (C) _))
  go_wp2_with fail
  go_ret
  exact ⟨rfl, below_drewN HB.out _⟩
theorem reckon_3 (mv : Value) (w : World) : Calls Tryz.prog 242 #[mv, .agg #[.int .i64 3, .int .i64 4, .int .i64 0]] w fun e w' => e = .returned (.int .i64 36) ∧ Below w.heap.size w w' := by
  have HB := Lib.hid (box54 w 3 0)
  have K0 := Lib.hid (Blk.new w 54 #[.int .i64 3, .int .i64 4, .int .i64 0])
  have d0 := K0.out.cell 0
  have d1 := K0.out.cell 1
  go_enter Tryz.func242, Tryz.ntmps242
  go_wp2_with fail
  go_wp2_with fail
  with_reducible refine ((Radices_4 _)).mono ?_
  rintro e w2 ⟨v, rfl, ho, hb2⟩
  have B2 := Lib.hid (below_then HB.out HB.out.size hb2)
  have K2 := Lib.hid (K0.out.below hb2 K0.out.lt)
  have f0 := K2.out.cell 0
  have f1 := K2.out.cell 1
  obtain ⟨A, cp, rfl, _⟩ := ho.form
  obtain ⟨g, rfl⟩ := ho.some (i := 0) (by decide)
  have y0 := ho.cellAt (i := 0) (by decide)
  have y1 := ho.cellAt (i := 1) (by decide)
  clear ho hb2 d0 d1
  go_wp2_with fail
  repeat ((first | rw [rounds_succ] | refine wp_loop_rounds 8 ?_); go_wp2_with fail)
  go_wp2_with fail
  go_ret
  exact ⟨rfl, B2.out⟩
open Go.Maps
theorem laid54 : laidOutB Tryz.prog = true := by kernel_rfl
theorem key54 : Keyed Tryz.prog 54 := Keyed.of_law (deep_law_laid laid54 (m := 3) (by omega) (of_decide_eq_true (by kernel_rfl)) (by kernel_rfl) (by rw [Tryz.underlying54]))
def klb (k : Nat) : List UInt8 := List.replicate 7 0 ++ [UInt8.ofNat k] ++ List.replicate 7 0 ++ [4] ++ List.replicate 8 0
def kl (k : Nat) : Lit := .string (klb k)
theorem key54_0 : keyOf Tryz.prog 54 (.agg #[.int .i64 0, .int .i64 4, .int .i64 0]) = some (kl 0) := by kernel_rfl
theorem key54_1 : keyOf Tryz.prog 54 (.agg #[.int .i64 1, .int .i64 4, .int .i64 0]) = some (kl 1) := by kernel_rfl
theorem key54_2 : keyOf Tryz.prog 54 (.agg #[.int .i64 2, .int .i64 4, .int .i64 0]) = some (kl 2) := by kernel_rfl
theorem key54_3 : keyOf Tryz.prog 54 (.agg #[.int .i64 3, .int .i64 4, .int .i64 0]) = some (kl 3) := by kernel_rfl
end Go.Proofs.YtpkpadepccneeaaGreatDoor

/- The walk of plan's costs through their map; plan.Choose at length 4 in the field of 5. No condition. -/
namespace Go.Proofs.YtpkpadepccneeaaGreatDoor
set_option linter.unusedVariables false
set_option linter.unusedSimpArgs false
open Go Go.RowKit Go.Shelf Go.Maps
attribute [local go_sem] Oper.semAt_some
/-- The map of costs: whatever of the four ways it holds, it holds rightly. -/
def Book (w : World) (b m : Nat) : Prop := ∃ (n : Nat) (D : DataW Value), n ≤ m ∧ w.ownsMap Tryz.prog 54 (plainElem Tryz.prog 3) b n D ∧ ∀ k, k < 4 → Maps.has D (kl k) = true → D.atKey (kl k) (.lit (.int .i64 0)) = .lit (.int .i64 (cost4 k))
theorem kl_ne {k j : Nat} (hk : k < 4) (hj : j < 4) (h : j ≠ k) : kl j ≠ kl k := by
  have : ∀ a, a < 4 → ∀ b, b < 4 → b ≠ a → klb b ≠ klb a := by decide
  intro e
  unfold kl at e
  injection e with e
  exact this k hk j hj h e
theorem Book.lt {w : World} {b m : Nat} (h : Book w b m) : b < w.heap.size := by
  obtain ⟨n, D, _, ho, _⟩ := h
  exact World.ownsMap.lt ho
theorem Book.fr {w w1 : World} {b m : Nat} {S : Nat → Prop} (h : Book w b m) (hf : Fr S w w1) (hS : ¬ S b) : Book w1 b m := by
  obtain ⟨n, D, h1, ho, h2⟩ := h
  exact ⟨n, D, h1, hf.map ho hS, h2⟩
theorem lit_int_eq {c x : Int} (h : (DataW.lit (.int .i64 c) : DataW Value) = .lit (.int .i64 x)) : c = x := by injection h with h; injection h
theorem zero3 (w : World) : (zeroValue 3).run Tryz.prog w = .ok (.int .i64 0) w := by kernel_rfl
set_option maxHeartbeats 1000000 in
theorem cost_any (k : Nat) (hk : k < 4) (kk c : Int) (hkey : keyOf Tryz.prog 54 (.agg #[.int .i64 kk, .int .i64 4, .int .i64 0]) = some (kl k)) (hc : cost4 k = c) (hw : (Lit.int .i64 c).wf = true)
    (hr : ∀ mv W, Calls Tryz.prog 242 #[mv, .agg #[.int .i64 kk, .int .i64 4, .int .i64 0]] W fun e w' => e = .returned (.int .i64 c) ∧ Below W.heap.size W w')
    (b m : Nat) (w : World) (hb : Book w b m) (hm : m < 1000) :
    Calls Tryz.prog 190 #[.map (some b), .agg #[.int .i64 kk, .int .i64 4, .int .i64 0]] w fun e w' => e = .returned (.int .i64 c) ∧ Book w' b (m + 1) ∧ Fr (fun i => i = b) w w' := by
  obtain ⟨n, D, hn, ho, hD⟩ := hb
  have HB := Lib.hid (show Below w.heap.size w (w.alloc (.cells #[.int .i64 kk, .int .i64 4, .int .i64 0] 54)) from (Below.refl _ _).alloc (Nat.le_refl _) _)
  have K0 := Lib.hid (Blk.new w 54 #[.int .i64 kk, .int .i64 4, .int .i64 0])
  have HM := Lib.hid (World.ownsMap.alloc ho (.cells #[.int .i64 kk, .int .i64 4, .int .i64 0] 54))
  have HD := Lib.hid hD
  have hnm : n < maxLen := by unfold maxLen; omega
  have HR := Lib.hid (hr (.map (some b)) (w.alloc (.cells #[.int .i64 kk, .int .i64 4, .int .i64 0] 54)))
  have d0 := K0.out.cell 0
  have d1 := K0.out.cell 1
  have d2 := K0.out.cell 2
  clear ho hD hr
  go_enter Tryz.func190, Tryz.ntmps190
  cases hh : Maps.has D (kl k)
  · replace hh := Lib.hid hh
    go_wp2_with (at_lookup; refine wpList_lookup_own_ok_int _ rfl (.tmp 9) (.tmp 10) 266 rfl 54 3 .i64 key54 Tryz.underlying266 Tryz.underlying3 (zero3 _) b n D rfl HM.out (.agg #[.int .i64 kk, .int .i64 4, .int .i64 0]) (kl k) rfl hkey ?_; rw [hh.out]; intro x _ _)
    go_wp2_with fail
    go_wp2_with fail
    with_reducible refine (HR.out).mono ?_
    rintro e w2 ⟨rfl, hb2⟩
    have HM2 := Lib.hid ((Fr.of_below (fun _ => False) hb2).map HM.out (fun h => h))
    have B2 := Lib.hid (below_then HB.out HB.out.size hb2)
    have K2 := Lib.hid (K0.out.below hb2 K0.out.lt)
    have e0 := K2.out.cell 0
    have e1 := K2.out.cell 1
    have e2 := K2.out.cell 2
    clear hb2 d0 d1 d2
    go_wp2_with (at_mapUpdate; refine wpList_mapUpdate_own _ rfl (.tmp 19) (.tmp 20) (.tmp 21) 266 rfl 54 3 key54 Tryz.underlying266 (plainElem Tryz.prog 3) b n D rfl HM2.out hnm (.agg #[.int .i64 kk, .int .i64 4, .int .i64 0]) (.int .i64 c) (kl k) rfl rfl hkey (.lit (.int .i64 c)) [] (plainElem_int Tryz.underlying3 hw) ?_; intro w3 hm3 hg3; have M3 := Lib.hid hm3; have G3 := Lib.hid hg3; clear hm3 hg3)
    go_wp2_with fail
    have HBk : Book w3 b (m + 1) := by
      have hkk := key54.key hkey
      have hmp := World.ownsMap.isMap HM2.out
      refine ⟨n + 1, _, by omega, M3.out, fun j hj hhas => ?_⟩
      by_cases e : j = k
      · subst e
        rw [atKey_put_same hmp hkk, hc]
      · rw [has_put_other (kl_ne hk hj e)] at hhas
        rw [atKey_put_other (kl_ne hk hj e)]
        exact HD.out j hj hhas
    go_wp2_with fail
    go_ret
    exact ⟨rfl, HBk, ((Fr.of_below (fun i => i = b) B2.out).trans (Fr.of_grown G3.out (fun r e => (Option.some.inj e).symm)))⟩
  · have hcc := HD.out k hk hh
    rw [hc] at hcc
    replace hh := Lib.hid hh
    replace hcc := Lib.hid hcc
    go_wp2_with (at_lookup; refine wpList_lookup_own_ok_int _ rfl (.tmp 9) (.tmp 10) 266 rfl 54 3 .i64 key54 Tryz.underlying266 Tryz.underlying3 (zero3 _) b n D rfl HM.out (.agg #[.int .i64 kk, .int .i64 4, .int .i64 0]) (kl k) rfl hkey ?_; rw [hh.out, hcc.out]; rintro x hx _; obtain rfl : c = x := lit_int_eq hx)
    go_wp2_with fail
    go_ret
    exact ⟨rfl, ⟨n, D, by omega, HM.out, HD.out⟩, Fr.of_below _ HB.out⟩
/-- What each of the four plain ways costs, out of the book. -/
theorem cost_k (k : Nat) (hk : k < 4) (b m : Nat) (w : World) (hb : Book w b m) (hm : m < 1000) :
    Calls Tryz.prog 190 #[.map (some b), .agg #[.int .i64 (k : Int), .int .i64 4, .int .i64 0]] w fun e w' => e = .returned (.int .i64 (cost4 k)) ∧ Book w' b (m + 1) ∧ Fr (fun i => i = b) w w' := by
  rcases (by omega : k = 0 ∨ k = 1 ∨ k = 2 ∨ k = 3) with rfl | rfl | rfl | rfl
  · exact cost_any 0 hk 0 16 key54_0 rfl (by decide) reckon_0 b m w hb hm
  · exact cost_any 1 hk 1 28 key54_1 rfl (by decide) reckon_1 b m w hb hm
  · exact cost_any 2 hk 2 24 key54_2 rfl (by decide) reckon_2 b m w hb hm
  · exact cost_any 3 hk 3 36 key54_3 rfl (by decide) reckon_3 b m w hb hm
end Go.Proofs.YtpkpadepccneeaaGreatDoor

/- A region that draws its order, within a round of the wide fence: by the walk that holds a condition on the world. No condition. -/
namespace Go.Proofs.YtpkpadepccneeaaGreatDoor
set_option linter.unusedVariables false
open Go Go.RowKit Go.Shelf
/-- Q where the code runs to its end; nothing else. -/
def OnlyNormal (Q : Exit → Act → World → Prop) : Exit → Act → World → Prop
  | .normal, a, w => Q .normal a w
  | _, _, _ => False
theorem OnlyNormal.imp {Q : Exit → Act → World → Prop} : ∀ (e : Exit) (a : Act) (w : World), OnlyNormal Q e a w → Q e a w := fun e a w h => by
  cases e <;> first | exact h | exact (h : False).elim
theorem OnlyNormal.normal {Q : Exit → Act → World → Prop} {a : Act} {w : World} (h : Q .normal a w) : OnlyNormal Q .normal a w := h
theorem callsIn_round {L n : Nat} {P : Program} {f : FuncId} {args : Array Value} {w : World} {R : Ending → World → Prop} (h : Calls P f args w R) : CallsIn (Fence.wide.inRound L) n P f args w R :=
  (callsIn_wide (n := n)).2 h
theorem rowsIn_round {L n : Nat} {P : Program} {f : String} {args : Array Value} {w : World} {R : Value → World → Prop} (h : Rows P f args w R) : RowsIn (Fence.wide.inRound L) n P f args w R :=
  fun c cs _ => let ⟨v, w', r, s⟩ := h c cs; ⟨v, w', r, stepsIn_wide.2 s⟩
theorem wpOpIn_round {L n : Nat} {P : Program} {ops : Array Oper} {Q : Exit → Act → World → Prop} (hnd : ∀ (i : Nat) (o : Oper) c, ops[i]? = some o → o.op ≠ .defer c) {i : Nat} {K : Act → World → Prop} {a : Act} {w : World}
    (h : wpOp P ops (OnlyNormal Q) i K a w) : wpOpIn (Fence.wide.inRound L) n P ops (OnlyNormal Q) i K a w := by
  unfold wpOp at h
  unfold wpOpIn
  cases ho : ops[i]? with
  | none => simpa [ho] using h
  | some o =>
    simp only [ho] at h ⊢
    split
    · rename_i hw
      simp only [hw, if_true] at h
      rcases h with h | ⟨_, a', w', h⟩
      · refine ⟨fun f _ => trivial, ?_⟩
        rw [Oper.semAt_eq _ _ _ (fun c => hnd i o c ho)]
        unfold Oper.wp at h
        cases hr : (execOp a.eval o).run P w with
        | ok x w' =>
          rw [hr] at h
          cases x <;> simp only [Oper.upon, Oper.uponIn] at h ⊢
          case value => exact h
          case skip => exact h
          case defer => exact h
          case enter => exact ⟨fun hh => (by cases hh), callsIn_round h⟩
          case row => exact ⟨fun hh => (by cases hh), rowsIn_round h⟩
        | halt x w' =>
          rw [hr] at h
          cases x <;> simp only [Oper.upon, Oper.uponIn] at h ⊢
          exact h
      · exact h.elim
    · rename_i hw
      simp only [hw] at h
      exact ⟨fun f _ => trivial, h⟩
theorem wpAnyIn_round {L n : Nat} {P : Program} {md : Region.Mode} {ops : Array Oper} {Q : Exit → Act → World → Prop} (hnd : ∀ (i : Nat) (o : Oper) c, ops[i]? = some o → o.op ≠ .defer c) :
    ∀ (fuel : Nat) (listed : Array Bool) (a : Act) (w : World), wpAny P md ops (OnlyNormal Q) fuel listed a w → wpAnyIn (Fence.wide.inRound L) n P md ops (OnlyNormal Q) fuel listed a w
  | 0, _, _, _, h => h
  | fuel + 1, _, _, _, h => ⟨h.1, fun i hi => wpOpIn_mono (fun a' w' h' => wpAnyIn_round hnd fuel _ a' w' h') (wpOpIn_round hnd (h.2 i hi))⟩
theorem wpIn_round_held {L n : Nat} {P : Program} {ops : Array Oper} {Q : Exit → Act → World → Prop} {S : World → Prop} {id : Nat} {a : Act} {w : World}
    (hm : P.follows .mixedOrders = true) (hnd : ∀ o ∈ ops.toList, ∀ c, o.op ≠ .defer c) (hS : S w.drew) (h : S w.drew → wpAnyH P .any ops (OnlyNormal Q) S ops.size (Array.replicate ops.size false) a w.drew) :
    (Code.region id ops true).wpIn (Fence.wide.inRound L) n P Q a w :=
  wpIn_mono (wpIn_region_any hm (wpAnyIn_round (fun i o c ho => hnd o (by rw [← Array.mem_def]; exact Array.mem_of_getElem? ho) c) _ _ _ _ (wpAny_of_held _ _ _ _ (h hS)))) OnlyNormal.imp
end Go.Proofs.YtpkpadepccneeaaGreatDoor

/- The walk of plan.Choose at length 4 in the field of 5. No condition. -/
namespace Go.Proofs.YtpkpadepccneeaaGreatDoor
set_option linter.unusedVariables false
set_option linter.unusedSimpArgs false
open Go Go.RowKit Go.Shelf Go.Maps
attribute [local go_sem] Oper.semAt_some
theorem Fr.keepsFrom {S : Nat → Prop} {X Y : World} {B : Nat} (h : Fr S X Y) (hS : ∀ i, S i → i < B) : KeepsFrom B X Y :=
  ⟨h.size, fun k o hB hk _ => h.heap hk (fun hs => by have := hS k hs; omega)⟩
theorem Fr.ka {S : Nat → Prop} {X Y : World} {n0 bf bn G : Nat} (h : Fr S X Y) (hX : n0 ≤ X.heap.size) (hS : ∀ i, S i → n0 ≤ i ∧ i < G ∧ i ≠ bf ∧ i ≠ bn) : KA n0 bf bn G X Y :=
  ⟨h.to_below hX (fun i hi hs => by have := (hS i hs).1; omega), h.keepsFrom (fun i hs => (hS i hs).2.1), fun b hb o ho _ => h.heap ho (fun hs => by have := hS b hs; omega)⟩
theorem KA.trans {n0 bf bn G : Nat} {X Y Z : World} (h : KA n0 bf bn G X Y) (k : KA n0 bf bn G Y Z) : KA n0 bf bn G X Z :=
  ⟨h.1.trans k.1, h.2.1.trans k.2.1, fun b hb o ho hc => k.2.2 b hb o (h.2.2 b hb o ho hc) hc⟩
theorem plan_next {pre : List Pl} {x : Pl} (h : pre ++ [x] <+: plsTo 7) : ∃ i : Nat, i < 4 ∧ pre.length = i ∧ x = ⟨i, 4, 0⟩ := by
  have e : plsTo 7 = [⟨0, 4, 0⟩, ⟨1, 4, 0⟩, ⟨2, 4, 0⟩, ⟨3, 4, 0⟩] := by decide
  rw [e] at h
  have hl := h.length_le
  simp at hl
  obtain ⟨t, ht⟩ := h
  refine ⟨pre.length, by omega, rfl, ?_⟩
  have hx : (pre ++ [x] ++ t)[pre.length]? = some x := by simp
  rw [ht] at hx
  rcases (by omega : pre.length = 0 ∨ pre.length = 1 ∨ pre.length = 2 ∨ pre.length = 3) with e | e | e | e <;> rw [e] at hx ⊢ <;> simp at hx <;> exact hx.symm
theorem cost_more (i : Nat) : decide (cost4 i < cost4 0) = false := by
  refine decide_eq_false ?_
  have : cost4 0 = 16 := rfl
  rw [this]
  unfold cost4
  split
  · decide
  · split
    · decide
    · split <;> decide
/-- The best way so far, behind i ways; what the loop stands on. -/
def bestC : Nat → Array Value
  | 0 => #[.int .i64 0, .int .i64 0, .int .i64 0]
  | _ + 1 => #[.int .i64 0, .int .i64 4, .int .i64 0]
structure ChI (s : Nat) (w U : World) (i : Nat) : Prop where
  ck : Blk U s 42 #[.int .i64 (-1)]
  cr : Blk U (s + 1) 54 #[.int .i64 0, .int .i64 0, .int .i64 0]
  cm : Blk U (s + 1 + 1 + 1) 266 #[.map (some (s + 1 + 1))]
  cb : Blk U (s + 1 + 1 + 1 + 1) 54 (bestC i)
  bk : Book U (s + 1 + 1) (2 * i)
  bel : Below s w U
theorem ChI.turned {s i : Nat} {w U U' : World} (h : ChI s w U i) (hw : s ≤ w.heap.size) {row : Option Nat} (hg : U.grownBy U' row) (hr : ∀ r, row = some r → s + 5 ≤ r) : ChI s w U' i := by
  have hf : Fr (fun i => s + 5 ≤ i) U U' := Fr.of_grown hg hr
  exact ⟨hf.blk h.ck (by omega), hf.blk h.cr (by omega), hf.blk h.cm (by omega), hf.blk h.cb (by omega), h.bk.fr hf (by omega),
    h.bel.trans (hf.to_below (by have := h.bel.size; omega) (fun i hi => by omega))⟩
theorem chi_first (s B : Nat) (w U : World) (h : ChI s w U 0) (hw : s ≤ w.heap.size) (hB : s + 7 ≤ B) :
    KeepsFrom B U (((U.setCell ⟨s + 1 + 1 + 1 + 1, 0, none⟩ (.int .i64 0)).setCell ⟨s + 1 + 1 + 1 + 1, 1, none⟩ (.int .i64 4)).setCell ⟨s + 1 + 1 + 1 + 1, 2, none⟩ (.int .i64 0)).drew ∧
      KA s (s + 1 + 1 + 1 + 1 + 1) (s + 1 + 1 + 1 + 1 + 1 + 1) (B + 2) U (((U.setCell ⟨s + 1 + 1 + 1 + 1, 0, none⟩ (.int .i64 0)).setCell ⟨s + 1 + 1 + 1 + 1, 1, none⟩ (.int .i64 4)).setCell ⟨s + 1 + 1 + 1 + 1, 2, none⟩ (.int .i64 0)).drew ∧
      ChI s w (((U.setCell ⟨s + 1 + 1 + 1 + 1, 0, none⟩ (.int .i64 0)).setCell ⟨s + 1 + 1 + 1 + 1, 1, none⟩ (.int .i64 4)).setCell ⟨s + 1 + 1 + 1 + 1, 2, none⟩ (.int .i64 0)).drew (0 + 1) := by
  have h1 : Fr (fun k => k = s + 1 + 1 + 1 + 1) U (((U.setCell ⟨s + 1 + 1 + 1 + 1, 0, none⟩ (.int .i64 0)).setCell ⟨s + 1 + 1 + 1 + 1, 1, none⟩ (.int .i64 4)).setCell ⟨s + 1 + 1 + 1 + 1, 2, none⟩ (.int .i64 0)) :=
    ((Fr.setCell (S := fun k => k = s + 1 + 1 + 1 + 1) (p := ⟨s + 1 + 1 + 1 + 1, 0, none⟩) rfl _ _).trans (Fr.setCell (S := fun k => k = s + 1 + 1 + 1 + 1) (p := ⟨s + 1 + 1 + 1 + 1, 1, none⟩) rfl _ _)).trans (Fr.setCell (S := fun k => k = s + 1 + 1 + 1 + 1) (p := ⟨s + 1 + 1 + 1 + 1, 2, none⟩) rfl _ _)
  have hcb := (((show Blk U (s + 1 + 1 + 1 + 1) 54 #[.int .i64 0, .int .i64 0, .int .i64 0] from h.cb).set_ 0 (.int .i64 0)).set_ 1 (.int .i64 4)).set_ 2 (.int .i64 0)
  simp only [List.setIfInBounds_toArray, List.set_cons_zero, List.set_cons_succ] at hcb
  generalize ((U.setCell ⟨s + 1 + 1 + 1 + 1, 0, none⟩ (.int .i64 0)).setCell ⟨s + 1 + 1 + 1 + 1, 1, none⟩ (.int .i64 4)).setCell ⟨s + 1 + 1 + 1 + 1, 2, none⟩ (.int .i64 0) = X at *
  have hf : Fr (fun k => k = s + 1 + 1 + 1 + 1) U X.drew := h1.trans (Fr.of_below _ (Below.refl _ _).drew)
  have hU := h.bel.size
  refine ⟨hf.keepsFrom (fun k hk => by omega), hf.ka (by omega) (fun k hk => by omega), hf.blk h.ck (by omega), hf.blk h.cr (by omega), hf.blk h.cm (by omega), hcb, ?_, h.bel.trans (hf.to_below (by omega) (fun k hk => by omega))⟩
  obtain ⟨n, D, h1, h2, h3⟩ := h.bk.fr hf (by omega)
  exact ⟨n, D, by omega, h2, h3⟩
theorem chi_next (s B : Nat) (w U : World) (i : Nat) (h : ChI s w U i) (hw : s ≤ w.heap.size) (hB : s + 7 ≤ B) (h0 : ¬ i = 0) (w2 : World) (hb2 : Book w2 (s + 1 + 1) (2 * i + 1 + 1)) (hf : Fr (fun k => k = s + 1 + 1) U w2) :
    KeepsFrom B U w2 ∧ KA s (s + 1 + 1 + 1 + 1 + 1) (s + 1 + 1 + 1 + 1 + 1 + 1) (B + 2) U w2 ∧ ChI s w w2 (i + 1) := by
  have hU := h.bel.size
  have e : bestC (i + 1) = bestC i := by
    cases i with
    | zero => exact absurd rfl h0
    | succ j => rfl
  exact ⟨hf.keepsFrom (fun k hk => by omega), hf.ka (by omega) (fun k hk => by omega), hf.blk h.ck (by omega), hf.blk h.cr (by omega), hf.blk h.cm (by omega), e ▸ hf.blk h.cb (by omega), hb2, h.bel.trans (hf.to_below (by omega) (fun k hk => by omega))⟩
set_option maxRecDepth 100000 in
set_option maxHeartbeats 4000000 in
theorem Choose_4 (gf : Nat) (w : World) (hf : FD w gf 5 2) : Calls Tryz.prog 132 #[.pointer (some ⟨gf, 0, none⟩), .int .i64 4, .int .i64 (-1)] w fun e w' => e = .returned (.tuple #[.agg #[.int .i64 0, .int .i64 4, .int .i64 0], .int .i64 0]) ∧ Below w.heap.size w w' := by
  have hmm := @run_makeMap Tryz.prog
  have HB := Lib.hid (show Below w.heap.size w ((w.alloc (.cells #[.int .i64 (-1)] 42)).alloc (.cells #[.int .i64 0, .int .i64 0, .int .i64 0] 54)) from ((Below.refl _ w).alloc (Nat.le_refl _) _).alloc (by simp) _)
  have HF := Lib.hid hf
  have CP := Lib.hid (show Rd 188 #[.pointer (some ⟨gf, 0, none⟩), .int .i64 4] ((w.alloc (.cells #[.int .i64 (-1)] 42)).alloc (.cells #[.int .i64 0, .int .i64 0, .int .i64 0] 54)) (.int .i64 0) from pCheck_ok gf 5 2 4 _ (hf.below HB.out) (by decide) (by decide) (by decide)).now
  clear hf
  refine (callsIn_wide (n := 9)).1 (callsIn_of_wp_marks Tryz.func132 rfl trivial ?_ rfl)
  simp only [Tryz.ntmps132, List.size_toArray, List.length_cons, List.length_nil, Nat.reduceAdd, Nat.reduceSub, Array.replicate_succ, Array.replicate_zero, List.push_toArray, List.append_toArray, List.nil_append, List.cons_append]
  gi_wp2
  refine ⟨trivial, ?_⟩
  refine (callsIn_wide.2 CP.out).mono ?_
  rintro e w1 ⟨rfl, q, rfl⟩
  gi_wp2
  refine ⟨trivial, ?_⟩
  refine (callsIn_wide.2 (All_ok gf _)).mono ?_
  rintro e w2 ⟨rfl, rfl⟩
  have ZD := (below_drewN HB.out q)
  have Z0 := (Blk.new w 42 #[.int .i64 (-1)]).alloc (.cells #[.int .i64 0, .int .i64 0, .int .i64 0] 54)
  have Z1 := Blk.new (w.alloc (.cells #[.int .i64 (-1)] 42)) 54 #[.int .i64 0, .int .i64 0, .int .i64 0]
  simp only [World.size_alloc] at Z1
  replace Z0 := Z0.drewN q
  replace Z1 := Z1.drewN q
  have hs1 : (((w.alloc (.cells #[.int .i64 (-1)] 42)).alloc (.cells #[.int .i64 0, .int .i64 0, .int .i64 0] 54)).drewN q).heap.size = w.heap.size + 1 + 1 := by
    show ((w.alloc (.cells #[.int .i64 (-1)] 42)).alloc (.cells #[.int .i64 0, .int .i64 0, .int .i64 0] 54)).heap.size = _
    rw [World.size_alloc, World.size_alloc]
  clear CP HB
  generalize ((w.alloc (.cells #[.int .i64 (-1)] 42)).alloc (.cells #[.int .i64 0, .int .i64 0, .int .i64 0] 54)).drewN q = V1 at *
  have M2 := World.ownsMap_made (H := Value) V1 Tryz.prog 54 (plainElem Tryz.prog 3)
  have Z3 := Blk.new (V1.alloc (.map #[] 0)) 266 #[.map (some (w.heap.size + 1 + 1))]
  have Z4 := Blk.new ((V1.alloc (.map #[] 0)).alloc (.cells #[.map (some (w.heap.size + 1 + 1))] 266)) 54 #[.int .i64 0, .int .i64 0, .int .i64 0]
  have Z5 := Blk.new (((V1.alloc (.map #[] 0)).alloc (.cells #[.map (some (w.heap.size + 1 + 1))] 266)).alloc (.cells #[.int .i64 0, .int .i64 0, .int .i64 0] 54)) 35 #[.pointer (some ⟨gf, 0, none⟩)]
  have Z6 := Blk.new ((((V1.alloc (.map #[] 0)).alloc (.cells #[.map (some (w.heap.size + 1 + 1))] 266)).alloc (.cells #[.int .i64 0, .int .i64 0, .int .i64 0] 54)).alloc (.cells #[.pointer (some ⟨gf, 0, none⟩)] 35)) 3 #[.int .i64 4]
  simp only [World.size_alloc, hs1] at Z3 Z4 Z5 Z6 M2
  have hV : Below V1.heap.size V1 (((((V1.alloc (.map #[] 0)).alloc (.cells #[.map (some (w.heap.size + 1 + 1))] 266)).alloc (.cells #[.int .i64 0, .int .i64 0, .int .i64 0] 54)).alloc (.cells #[.pointer (some ⟨gf, 0, none⟩)] 35)).alloc (.cells #[.int .i64 4] 3)) :=
    (((((Below.refl _ V1).alloc (Nat.le_refl _) _).alloc (by simp) _).alloc (by simp; omega) _).alloc (by simp; omega) _).alloc (by simp; omega) _
  have hB2 := Lib.hid (ZD.trans (hV.mono (by omega)))
  have HI := Lib.hid (show ChI w.heap.size w (((((V1.alloc (.map #[] 0)).alloc (.cells #[.map (some (w.heap.size + 1 + 1))] 266)).alloc (.cells #[.int .i64 0, .int .i64 0, .int .i64 0] 54)).alloc (.cells #[.pointer (some ⟨gf, 0, none⟩)] 35)).alloc (.cells #[.int .i64 4] 3)) 0 from
    ⟨Z0.below hV Z0.lt, Z1.below hV Z1.lt, ((Z3.alloc _).alloc _).alloc _, (Z4.alloc _).alloc _, ⟨0, .map [], by omega, (((M2.alloc _).alloc _).alloc _).alloc _, fun k hk h => by cases h⟩, hB2.out⟩)
  have H5 := Lib.hid (Z5.alloc (.cells #[.int .i64 4] 3))
  have H6 := Lib.hid Z6
  have hs2 : (((((V1.alloc (.map #[] 0)).alloc (.cells #[.map (some (w.heap.size + 1 + 1))] 266)).alloc (.cells #[.int .i64 0, .int .i64 0, .int .i64 0] 54)).alloc (.cells #[.pointer (some ⟨gf, 0, none⟩)] 35)).alloc (.cells #[.int .i64 4] 3)).heap.size = w.heap.size + 7 := by
    simp only [World.size_alloc, hs1]
  clear Z0 Z1 Z3 Z4 Z5 Z6 M2 hV ZD hmm
  gi_wp2
  generalize ((((V1.alloc (.map #[] 0)).alloc (.cells #[.map (some (w.heap.size + 1 + 1))] 266)).alloc (.cells #[.int .i64 0, .int .i64 0, .int .i64 0] 54)).alloc (.cells #[.pointer (some ⟨gf, 0, none⟩)] 35)).alloc (.cells #[.int .i64 4] 3) = V at *
  clear hs1
  clear V1
  have hws : w.heap.size ≤ w.heap.size := Nat.le_refl _
  have HSw := Lib.hid (rfl : w.heap.size = w.heap.size)
  refine RangeE.range_law False (n := 9) (gf := 240) (lb := #[.pointer (some ⟨w.heap.size + 1 + 1 + 1 + 1 + 1, 0, none⟩), .pointer (some ⟨w.heap.size + 1 + 1 + 1 + 1 + 1 + 1, 0, none⟩)]) rfl (by omega) rfl trivial (enters_of Tryz.func240 (by kernel_rfl) rfl)
    (All1_stops 8 (by omega) w.heap.size w V gf (w.heap.size + 1 + 1 + 1 + 1 + 1) (w.heap.size + 1 + 1 + 1 + 1 + 1 + 1) rfl HF.out hB2.out H5.out H6.out) KA.trans
    (fun U o o' h => ⟨below_putObj _ _ _ _ (by omega), ⟨by simp [World.putObj], fun k o'' hB hk _ => (World.putObj_heap_other (by omega)).trans hk⟩, fun b hb o'' ho _ => (World.putObj_heap_other (by omega)).trans ho⟩)
    (Below.refl _ _) (fun _ => rfl)
    (fun pre U => ChI w.heap.size w U pre.length)
    (fun c pre U => False)
    (fun pre U U' row h hg hr => h.turned hws hg (fun r e => by rcases hr r e with ⟨h, _⟩ | ⟨h, _⟩; exact h.elim; omega))
    (fun c pre U U' row h hg hr => h)
    HI.out
    (fun x a' U => ∃ g, w.heap.size + 9 ≤ g ∧ Blk U g 54 #[.int .i64 x.k, .int .i64 x.n, .int .i64 x.a] ∧ a' =
      { tmps := #[.pointer (some ⟨gf, 0, none⟩), .int .i64 4, .int .i64 (-1), undef, undef, .pointer (some ⟨w.heap.size, 0, none⟩), .pointer (some ⟨w.heap.size + 1, 0, none⟩), .int .i64 0, .int .i64 0, .pointer (some ⟨w.heap.size + 1 + 1 + 1, 0, none⟩),
        .pointer (some ⟨w.heap.size + 1 + 1 + 1 + 1, 0, none⟩), .pointer (some ⟨g, 0, none⟩), .pointer (some ⟨gf, 0, none⟩), .int .i64 4, .int .i64 0, .int .i64 0, .bool false, undef, undef, .map (some (w.heap.size + 1 + 1)), .pointer (some ⟨gf, 0, none⟩), .int .i64 4,
        .func (.func 240) #[] #[.pointer (some ⟨w.heap.size + 1 + 1 + 1 + 1 + 1, 0, none⟩), .pointer (some ⟨w.heap.size + 1 + 1 + 1 + 1 + 1 + 1, 0, none⟩)], .agg #[.int .i64 x.k, .int .i64 x.n, .int .i64 x.a],
        undef, undef, undef, undef, undef, undef, undef, undef, undef, undef, undef, undef, undef, undef, undef, undef, undef, undef, undef, undef, undef, undef, undef, undef, undef, undef, undef, undef], defers := [] })
    (fun x a' U o o' h ho ⟨g, h1, h2, h3⟩ => ⟨g, h1, h2.record h ho, h3⟩)
    ?assign ?body ?done ?stop
  case assign =>
    rintro L pre ⟨xk, xn, xa⟩ U K hi ho hK
    have hU : V.heap.size + 1 < U.heap.size := by
      obtain ⟨o, ho⟩ := ho
      exact (Array.getElem?_eq_some_iff.1 ho).1
    have HK := Lib.hid hK
    have HI := Lib.hid hi
    clear hK hi ho
    unfold Pl.enc
    gi_wp2
    have hfa : Fr (fun _ => False) U (U.alloc (.cells #[.int .i64 xk, .int .i64 xn, .int .i64 xa] 54)) := Fr.alloc _ _ _
    refine HK.out _ _ ((KeepsOthers.alloc _ _).from _) (hfa.ka (by have := HI.out.bel.size; omega) (fun i h => h.elim)) (HI.out.turned hws (World.grownBy_alloc U _ none) (fun r e => by cases e)) ⟨U.heap.size, by omega, Blk.new U 54 _, rfl⟩
  case body =>
    rintro L pre x a' U ho hi ⟨g, hg, hGB, rfl⟩ hnx hU
    obtain ⟨i, hi4, hpl, rfl⟩ := plan_next hnx
    rw [hpl] at hi
    have hlen : (pre ++ [(⟨i, 4, 0⟩ : Pl)]).length = i + 1 := by rw [List.length_append, hpl]; rfl
    replace hi := Lib.hid hi
    replace ho := Lib.hid ho
    have c5 := hi.out.ck.cell 0
    have c9 := hi.out.cm.cell 0
    have g0 := hGB.cell 0
    have g1 := hGB.cell 1
    have g2 := hGB.cell 2
    replace hGB := Lib.hid hGB
    clear hnx
    by_cases h0 : i = 0
    · subst h0
      have b0 := hi.out.cb.cell 0
      have b1 := hi.out.cb.cell 1
      have b2 := hi.out.cb.cell 2
      have e0 := hi.out.cb.frozen 0
      have e1 := hi.out.cb.frozen 1
      have e2 := hi.out.cb.frozen 2
      unfold bestC at b0 b1 b2
      have HCF := Lib.hid (chi_first w.heap.size V.heap.size w U hi.out hws (by omega))
      gi_wp2
      refine wpIn_round_held (S := fun w' => w'.cell? ⟨w.heap.size, 0, none⟩ = some (.int .i64 (-1)) ∧ w'.cell? ⟨w.heap.size + 1 + 1 + 1 + 1, 0, none⟩ = some (.int .i64 0) ∧ w'.cell? ⟨w.heap.size + 1 + 1 + 1 + 1, 1, none⟩ = some (.int .i64 0) ∧ w'.cell? ⟨w.heap.size + 1 + 1 + 1 + 1, 2, none⟩ = some (.int .i64 0))
        (by kernel_rfl) (by simp) ⟨c5, b0, b1, b2⟩ (fun hHeld => ?_)
      refine wpAnyH_take (i := 0) (v := ?_) (by simp only [List.getElem?_toArray, List.getElem?_cons_succ, List.getElem?_cons_zero]; rfl) (by kernel_rfl) (by kernel_rfl) (by kernel_rfl) (fun _ _ _ h => h) (Or.inl ⟨by rfl, ?_⟩) (by assumption) ?_
      rotate_left 1
      · (intro wS hSw; (try dsimp only at hSw); go_simp; (try with_reducible rfl))
      try simp only [Act.put, List.setIfInBounds_toArray, List.set_cons_zero, List.set_cons_succ]
      refine wpAnyH_take (i := 1) (v := ?_) (by simp only [List.getElem?_toArray, List.getElem?_cons_succ, List.getElem?_cons_zero]; rfl) (by kernel_rfl) (by kernel_rfl) (by kernel_rfl) (fun _ _ _ h => h) (Or.inl ⟨by rfl, ?_⟩) (by assumption) ?_
      rotate_left 1
      · (intro wS hSw; (try dsimp only at hSw); go_simp; (try with_reducible rfl))
      try simp only [Act.put, List.setIfInBounds_toArray, List.set_cons_zero, List.set_cons_succ]
      refine wpAnyH_take (i := 2) (v := ?_) (by simp only [List.getElem?_toArray, List.getElem?_cons_succ, List.getElem?_cons_zero]; rfl) (by kernel_rfl) (by kernel_rfl) (by kernel_rfl) (fun _ _ _ h => h) (Or.inl ⟨by rfl, ?_⟩) (by assumption) ?_
      rotate_left 1
      · (intro wS hSw; (try dsimp only at hSw); go_simp; (try with_reducible rfl))
      try simp only [Act.put, List.setIfInBounds_toArray, List.set_cons_zero, List.set_cons_succ]
      refine wpAnyH_take (i := 3) (v := undef) (by simp only [List.getElem?_toArray, List.getElem?_cons_succ, List.getElem?_cons_zero]; rfl) (by kernel_rfl) (by kernel_rfl) (by kernel_rfl) (fun _ _ _ h => h) (Or.inr ⟨by rfl, rfl⟩) (by assumption) ?_
      try simp only [Act.put, List.setIfInBounds_toArray, List.set_cons_zero, List.set_cons_succ]
      refine wpAnyH_take (i := 4) (v := undef) (by simp only [List.getElem?_toArray, List.getElem?_cons_succ, List.getElem?_cons_zero]; rfl) (by kernel_rfl) (by kernel_rfl) (by kernel_rfl) (fun _ _ _ h => h) (Or.inr ⟨by rfl, rfl⟩) (by assumption) ?_
      try simp only [Act.put, List.setIfInBounds_toArray, List.set_cons_zero, List.set_cons_succ]
      refine wpAnyH_take (i := 5) (v := undef) (by simp only [List.getElem?_toArray, List.getElem?_cons_succ, List.getElem?_cons_zero]; rfl) (by kernel_rfl) (by kernel_rfl) (by kernel_rfl) (fun _ _ _ h => h) (Or.inr ⟨by rfl, rfl⟩) (by assumption) ?_
      try simp only [Act.put, List.setIfInBounds_toArray, List.set_cons_zero, List.set_cons_succ]
      refine wpAnyH_take (i := 6) (v := undef) (by simp only [List.getElem?_toArray, List.getElem?_cons_succ, List.getElem?_cons_zero]; rfl) (by kernel_rfl) (by kernel_rfl) (by kernel_rfl) (fun _ _ _ h => h) (Or.inr ⟨by rfl, rfl⟩) (by assumption) ?_
      try simp only [Act.put, List.setIfInBounds_toArray, List.set_cons_zero, List.set_cons_succ]
      refine wpAnyH_take (i := 7) (v := ?_) (by simp only [List.getElem?_toArray, List.getElem?_cons_succ, List.getElem?_cons_zero]; rfl) (by kernel_rfl) (by kernel_rfl) (by kernel_rfl) (fun _ _ _ h => h) (Or.inl ⟨by rfl, ?_⟩) (by assumption) ?_
      rotate_left 1
      · (intro wS hSw; (try dsimp only at hSw); go_simp; (try with_reducible rfl))
      try simp only [Act.put, List.setIfInBounds_toArray, List.set_cons_zero, List.set_cons_succ]
      refine wpAnyH_take (i := 8) (v := ?_) (by simp only [List.getElem?_toArray, List.getElem?_cons_succ, List.getElem?_cons_zero]; rfl) (by kernel_rfl) (by kernel_rfl) (by kernel_rfl) (fun _ _ _ h => h) (Or.inl ⟨by rfl, ?_⟩) (by assumption) ?_
      rotate_left 1
      · (intro wS hSw; (try dsimp only at hSw); go_simp; (try with_reducible rfl))
      try simp only [Act.put, List.setIfInBounds_toArray, List.set_cons_zero, List.set_cons_succ]
      refine wpAnyH_take (i := 9) (v := ?_) (by simp only [List.getElem?_toArray, List.getElem?_cons_succ, List.getElem?_cons_zero]; rfl) (by kernel_rfl) (by kernel_rfl) (by kernel_rfl) (fun _ _ _ h => h) (Or.inl ⟨by rfl, ?_⟩) (by assumption) ?_
      rotate_left 1
      · (intro wS hSw; (try dsimp only at hSw); go_simp; (try with_reducible rfl))
      try simp only [Act.put, List.setIfInBounds_toArray, List.set_cons_zero, List.set_cons_succ]
      refine wpAnyH_take (i := 10) (v := ?_) (by simp only [List.getElem?_toArray, List.getElem?_cons_succ, List.getElem?_cons_zero]; rfl) (by kernel_rfl) (by kernel_rfl) (by kernel_rfl) (fun _ _ _ h => h) (Or.inl ⟨by rfl, ?_⟩) (by assumption) ?_
      rotate_left 1
      · (intro wS hSw; (try dsimp only at hSw); go_simp; (try with_reducible rfl))
      try simp only [Act.put, List.setIfInBounds_toArray, List.set_cons_zero, List.set_cons_succ]
      refine wpAnyH_take (i := 11) (v := ?_) (by simp only [List.getElem?_toArray, List.getElem?_cons_succ, List.getElem?_cons_zero]; rfl) (by kernel_rfl) (by kernel_rfl) (by kernel_rfl) (fun _ _ _ h => h) (Or.inl ⟨by rfl, ?_⟩) (by assumption) ?_
      rotate_left 1
      · (intro wS hSw; (try dsimp only at hSw); go_simp; (try with_reducible rfl))
      try simp only [Act.put, List.setIfInBounds_toArray, List.set_cons_zero, List.set_cons_succ]
      refine wpAnyH_take (i := 12) (v := ?_) (by simp only [List.getElem?_toArray, List.getElem?_cons_succ, List.getElem?_cons_zero]; rfl) (by kernel_rfl) (by kernel_rfl) (by kernel_rfl) (fun _ _ _ h => h) (Or.inl ⟨by rfl, ?_⟩) (by assumption) ?_
      rotate_left 1
      · (intro wS hSw; (try dsimp only at hSw); go_simp; (try with_reducible rfl))
      try simp only [Act.put, List.setIfInBounds_toArray, List.set_cons_zero, List.set_cons_succ]
      refine wpAnyH_take (i := 13) (v := undef) (by simp only [List.getElem?_toArray, List.getElem?_cons_succ, List.getElem?_cons_zero]; rfl) (by kernel_rfl) (by kernel_rfl) (by kernel_rfl) (fun _ _ _ h => h) (Or.inr ⟨by rfl, rfl⟩) (by assumption) ?_
      try simp only [Act.put, List.setIfInBounds_toArray, List.set_cons_zero, List.set_cons_succ]
      refine wpAnyH_take (i := 14) (v := undef) (by simp only [List.getElem?_toArray, List.getElem?_cons_succ, List.getElem?_cons_zero]; rfl) (by kernel_rfl) (by kernel_rfl) (by kernel_rfl) (fun _ _ _ h => h) (Or.inr ⟨by rfl, rfl⟩) (by assumption) ?_
      try simp only [Act.put, List.setIfInBounds_toArray, List.set_cons_zero, List.set_cons_succ]
      refine wpAnyH_take (i := 15) (v := undef) (by simp only [List.getElem?_toArray, List.getElem?_cons_succ, List.getElem?_cons_zero]; rfl) (by kernel_rfl) (by kernel_rfl) (by kernel_rfl) (fun _ _ _ h => h) (Or.inr ⟨by rfl, rfl⟩) (by assumption) ?_
      try simp only [Act.put, List.setIfInBounds_toArray, List.set_cons_zero, List.set_cons_succ]
      refine wpAnyH_take (i := 16) (v := undef) (by simp only [List.getElem?_toArray, List.getElem?_cons_succ, List.getElem?_cons_zero]; rfl) (by kernel_rfl) (by kernel_rfl) (by kernel_rfl) (fun _ _ _ h => h) (Or.inr ⟨by rfl, rfl⟩) (by assumption) ?_
      try simp only [Act.put, List.setIfInBounds_toArray, List.set_cons_zero, List.set_cons_succ]
      refine wpAnyH_take (i := 17) (v := undef) (by simp only [List.getElem?_toArray, List.getElem?_cons_succ, List.getElem?_cons_zero]; rfl) (by kernel_rfl) (by kernel_rfl) (by kernel_rfl) (fun _ _ _ h => h) (Or.inr ⟨by rfl, rfl⟩) (by assumption) ?_
      try simp only [Act.put, List.setIfInBounds_toArray, List.set_cons_zero, List.set_cons_succ]
      refine wpAnyH_take (i := 18) (v := undef) (by simp only [List.getElem?_toArray, List.getElem?_cons_succ, List.getElem?_cons_zero]; rfl) (by kernel_rfl) (by kernel_rfl) (by kernel_rfl) (fun _ _ _ h => h) (Or.inr ⟨by rfl, rfl⟩) (by assumption) ?_
      try simp only [Act.put, List.setIfInBounds_toArray, List.set_cons_zero, List.set_cons_succ]
      refine wpAnyH_take (i := 19) (v := undef) (by simp only [List.getElem?_toArray, List.getElem?_cons_succ, List.getElem?_cons_zero]; rfl) (by kernel_rfl) (by kernel_rfl) (by kernel_rfl) (fun _ _ _ h => h) (Or.inr ⟨by rfl, rfl⟩) (by assumption) ?_
      try simp only [Act.put, List.setIfInBounds_toArray, List.set_cons_zero, List.set_cons_succ]
      refine wpAnyH_take (i := 20) (v := ?_) (by simp only [List.getElem?_toArray, List.getElem?_cons_succ, List.getElem?_cons_zero]; rfl) (by kernel_rfl) (by kernel_rfl) (by kernel_rfl) (fun _ _ _ h => h) (Or.inl ⟨by rfl, ?_⟩) (by assumption) ?_
      rotate_left 1
      · (intro wS hSw; (try dsimp only at hSw); go_simp; (try with_reducible rfl))
      try simp only [Act.put, List.setIfInBounds_toArray, List.set_cons_zero, List.set_cons_succ]
      refine wpAnyH_take (i := 21) (v := ?_) (by simp only [List.getElem?_toArray, List.getElem?_cons_succ, List.getElem?_cons_zero]; rfl) (by kernel_rfl) (by kernel_rfl) (by kernel_rfl) (fun _ _ _ h => h) (Or.inl ⟨by rfl, ?_⟩) (by assumption) ?_
      rotate_left 1
      · (intro wS hSw; (try dsimp only at hSw); go_simp; (try with_reducible rfl))
      try simp only [Act.put, List.setIfInBounds_toArray, List.set_cons_zero, List.set_cons_succ]
      refine wpAnyH_done (by kernel_rfl) ?_ _
      refine OnlyNormal.normal ?_
      clear hHeld
      gi_wp2
      refine ⟨HCF.out.1, HCF.out.2.1, ?_⟩
      show ChI _ _ _ (pre ++ _).length
      rw [hlen]
      exact HCF.out.2.2
    · obtain ⟨b, hb⟩ : ∃ b, bestC i = b := ⟨_, rfl⟩
      have hbb : b = #[.int .i64 0, .int .i64 4, .int .i64 0] := by
        rw [← hb]
        cases i with
        | zero => exact absurd rfl h0
        | succ j => rfl
      subst hbb
      have hcb := hi.out.cb
      rw [hb] at hcb
      have b0 := hcb.cell 0
      have b1 := hcb.cell 1
      have b2 := hcb.cell 2
      replace hb := Lib.hid hb
      replace hcb := Lib.hid hcb
      gi_wp2
      refine wpIn_round_held (S := fun w' => w'.cell? ⟨w.heap.size, 0, none⟩ = some (.int .i64 (-1)) ∧ w'.cell? ⟨w.heap.size + 1 + 1 + 1, 0, none⟩ = some (.map (some (w.heap.size + 1 + 1))) ∧ (w'.cell? ⟨w.heap.size + 1 + 1 + 1 + 1, 0, none⟩ = some (.int .i64 0) ∧ w'.cell? ⟨w.heap.size + 1 + 1 + 1 + 1, 1, none⟩ = some (.int .i64 4) ∧ w'.cell? ⟨w.heap.size + 1 + 1 + 1 + 1, 2, none⟩ = some (.int .i64 0)) ∧
          (w'.cell? ⟨g, 0, none⟩ = some (.int .i64 i) ∧ w'.cell? ⟨g, 1, none⟩ = some (.int .i64 4) ∧ w'.cell? ⟨g, 2, none⟩ = some (.int .i64 0)))
        (by kernel_rfl) (by simp) ⟨c5, c9, ⟨b0, b1, b2⟩, ⟨g0, g1, g2⟩⟩ (fun hHeld => ?_)
      refine wpAnyH_take (i := 0) (v := ?_) (by simp only [List.getElem?_toArray, List.getElem?_cons_succ, List.getElem?_cons_zero]; rfl) (by kernel_rfl) (by kernel_rfl) (by kernel_rfl) (fun _ _ _ h => h) (Or.inl ⟨by rfl, ?_⟩) (by assumption) ?_
      rotate_left 1
      · (intro wS hSw; (try dsimp only at hSw); go_simp; (try with_reducible rfl))
      try simp only [Act.put, List.setIfInBounds_toArray, List.set_cons_zero, List.set_cons_succ]
      refine wpAnyH_take (i := 1) (v := ?_) (by simp only [List.getElem?_toArray, List.getElem?_cons_succ, List.getElem?_cons_zero]; rfl) (by kernel_rfl) (by kernel_rfl) (by kernel_rfl) (fun _ _ _ h => h) (Or.inl ⟨by rfl, ?_⟩) (by assumption) ?_
      rotate_left 1
      · (intro wS hSw; (try dsimp only at hSw); go_simp; (try with_reducible rfl))
      try simp only [Act.put, List.setIfInBounds_toArray, List.set_cons_zero, List.set_cons_succ]
      refine wpAnyH_take (i := 2) (v := ?_) (by simp only [List.getElem?_toArray, List.getElem?_cons_succ, List.getElem?_cons_zero]; rfl) (by kernel_rfl) (by kernel_rfl) (by kernel_rfl) (fun _ _ _ h => h) (Or.inl ⟨by rfl, ?_⟩) (by assumption) ?_
      rotate_left 1
      · (intro wS hSw; (try dsimp only at hSw); go_simp; (try with_reducible rfl))
      try simp only [Act.put, List.setIfInBounds_toArray, List.set_cons_zero, List.set_cons_succ]
      refine wpAnyH_take (i := 3) (v := undef) (by simp only [List.getElem?_toArray, List.getElem?_cons_succ, List.getElem?_cons_zero]; rfl) (by kernel_rfl) (by kernel_rfl) (by kernel_rfl) (fun _ _ _ h => h) (Or.inr ⟨by rfl, rfl⟩) (by assumption) ?_
      try simp only [Act.put, List.setIfInBounds_toArray, List.set_cons_zero, List.set_cons_succ]
      refine wpAnyH_take (i := 4) (v := undef) (by simp only [List.getElem?_toArray, List.getElem?_cons_succ, List.getElem?_cons_zero]; rfl) (by kernel_rfl) (by kernel_rfl) (by kernel_rfl) (fun _ _ _ h => h) (Or.inr ⟨by rfl, rfl⟩) (by assumption) ?_
      try simp only [Act.put, List.setIfInBounds_toArray, List.set_cons_zero, List.set_cons_succ]
      refine wpAnyH_take (i := 5) (v := undef) (by simp only [List.getElem?_toArray, List.getElem?_cons_succ, List.getElem?_cons_zero]; rfl) (by kernel_rfl) (by kernel_rfl) (by kernel_rfl) (fun _ _ _ h => h) (Or.inr ⟨by rfl, rfl⟩) (by assumption) ?_
      try simp only [Act.put, List.setIfInBounds_toArray, List.set_cons_zero, List.set_cons_succ]
      refine wpAnyH_take (i := 6) (v := undef) (by simp only [List.getElem?_toArray, List.getElem?_cons_succ, List.getElem?_cons_zero]; rfl) (by kernel_rfl) (by kernel_rfl) (by kernel_rfl) (fun _ _ _ h => h) (Or.inr ⟨by rfl, rfl⟩) (by assumption) ?_
      try simp only [Act.put, List.setIfInBounds_toArray, List.set_cons_zero, List.set_cons_succ]
      refine wpAnyH_take (i := 7) (v := ?_) (by simp only [List.getElem?_toArray, List.getElem?_cons_succ, List.getElem?_cons_zero]; rfl) (by kernel_rfl) (by kernel_rfl) (by kernel_rfl) (fun _ _ _ h => h) (Or.inl ⟨by rfl, ?_⟩) (by assumption) ?_
      rotate_left 1
      · (intro wS hSw; (try dsimp only at hSw); go_simp; (try with_reducible rfl))
      try simp only [Act.put, List.setIfInBounds_toArray, List.set_cons_zero, List.set_cons_succ]
      refine wpAnyH_take (i := 8) (v := ?_) (by simp only [List.getElem?_toArray, List.getElem?_cons_succ, List.getElem?_cons_zero]; rfl) (by kernel_rfl) (by kernel_rfl) (by kernel_rfl) (fun _ _ _ h => h) (Or.inl ⟨by rfl, ?_⟩) (by assumption) ?_
      rotate_left 1
      · (intro wS hSw; (try dsimp only at hSw); go_simp; (try with_reducible rfl))
      try simp only [Act.put, List.setIfInBounds_toArray, List.set_cons_zero, List.set_cons_succ]
      refine wpAnyH_take (i := 9) (v := ?_) (by simp only [List.getElem?_toArray, List.getElem?_cons_succ, List.getElem?_cons_zero]; rfl) (by kernel_rfl) (by kernel_rfl) (by kernel_rfl) (fun _ _ _ h => h) (Or.inl ⟨by rfl, ?_⟩) (by assumption) ?_
      rotate_left 1
      · (intro wS hSw; (try dsimp only at hSw); go_simp; (try with_reducible rfl))
      try simp only [Act.put, List.setIfInBounds_toArray, List.set_cons_zero, List.set_cons_succ]
      refine wpAnyH_take (i := 10) (v := ?_) (by simp only [List.getElem?_toArray, List.getElem?_cons_succ, List.getElem?_cons_zero]; rfl) (by kernel_rfl) (by kernel_rfl) (by kernel_rfl) (fun _ _ _ h => h) (Or.inl ⟨by rfl, ?_⟩) (by assumption) ?_
      rotate_left 1
      · (intro wS hSw; (try dsimp only at hSw); go_simp; (try with_reducible rfl))
      try simp only [Act.put, List.setIfInBounds_toArray, List.set_cons_zero, List.set_cons_succ]
      refine wpAnyH_take (i := 11) (v := ?_) (by simp only [List.getElem?_toArray, List.getElem?_cons_succ, List.getElem?_cons_zero]; rfl) (by kernel_rfl) (by kernel_rfl) (by kernel_rfl) (fun _ _ _ h => h) (Or.inl ⟨by rfl, ?_⟩) (by assumption) ?_
      rotate_left 1
      · (intro wS hSw; (try dsimp only at hSw); go_simp; (try with_reducible rfl))
      try simp only [Act.put, List.setIfInBounds_toArray, List.set_cons_zero, List.set_cons_succ]
      refine wpAnyH_take (i := 12) (v := ?_) (by simp only [List.getElem?_toArray, List.getElem?_cons_succ, List.getElem?_cons_zero]; rfl) (by kernel_rfl) (by kernel_rfl) (by kernel_rfl) (fun _ _ _ h => h) (Or.inl ⟨by rfl, ?_⟩) (by assumption) ?_
      rotate_left 1
      · (intro wS hSw; (try dsimp only at hSw); go_simp; (try with_reducible rfl))
      try simp only [Act.put, List.setIfInBounds_toArray, List.set_cons_zero, List.set_cons_succ]
      refine wpAnyH_take (i := 13) (v := ?_) (by simp only [List.getElem?_toArray, List.getElem?_cons_succ, List.getElem?_cons_zero]; rfl) (by kernel_rfl) (by kernel_rfl) (by kernel_rfl) (fun _ _ _ h => h) (Or.inl ⟨by rfl, ?_⟩) (by assumption) ?_
      rotate_left 1
      · (intro wS hSw; (try dsimp only at hSw); go_simp; (try with_reducible rfl))
      try simp only [Act.put, List.setIfInBounds_toArray, List.set_cons_zero, List.set_cons_succ]
      refine wpAnyH_take (i := 14) (v := ?_) (by simp only [List.getElem?_toArray, List.getElem?_cons_succ, List.getElem?_cons_zero]; rfl) (by kernel_rfl) (by kernel_rfl) (by kernel_rfl) (fun _ _ _ h => h) (Or.inl ⟨by rfl, ?_⟩) (by assumption) ?_
      rotate_left 1
      · (intro wS hSw; (try dsimp only at hSw); go_simp; (try with_reducible rfl))
      try simp only [Act.put, List.setIfInBounds_toArray, List.set_cons_zero, List.set_cons_succ]
      refine wpAnyH_take (i := 16) (v := ?_) (by simp only [List.getElem?_toArray, List.getElem?_cons_succ, List.getElem?_cons_zero]; rfl) (by kernel_rfl) (by kernel_rfl) (by kernel_rfl) (fun _ _ _ h => h) (Or.inl ⟨by rfl, ?_⟩) (by assumption) ?_
      rotate_left 1
      · (intro wS hSw; (try dsimp only at hSw); go_simp; (try with_reducible rfl))
      try simp only [Act.put, List.setIfInBounds_toArray, List.set_cons_zero, List.set_cons_succ]
      refine wpAnyH_take (i := 17) (v := ?_) (by simp only [List.getElem?_toArray, List.getElem?_cons_succ, List.getElem?_cons_zero]; rfl) (by kernel_rfl) (by kernel_rfl) (by kernel_rfl) (fun _ _ _ h => h) (Or.inl ⟨by rfl, ?_⟩) (by assumption) ?_
      rotate_left 1
      · (intro wS hSw; (try dsimp only at hSw); go_simp; (try with_reducible rfl))
      try simp only [Act.put, List.setIfInBounds_toArray, List.set_cons_zero, List.set_cons_succ]
      have HBk := Lib.hid (hi.out.bk.fr (Fr.of_below (fun _ => False) (Below.refl _ U).drew) (fun h => h))
      have Hfin := Lib.hid (chi_next w.heap.size V.heap.size w U i hi.out hws (by omega) h0)
      have hgs : ¬ g = w.heap.size + 1 + 1 := by omega
      have hn1 : ¬ w.heap.size = w.heap.size + 1 + 1 := by omega
      have hn2 : ¬ w.heap.size + 1 + 1 + 1 = w.heap.size + 1 + 1 := by omega
      have hn3 : ¬ w.heap.size + 1 + 1 + 1 + 1 = w.heap.size + 1 + 1 := by omega
      have keepS : ∀ X Y, Fr (fun k => k = w.heap.size + 1 + 1) X Y → (X.cell? ⟨w.heap.size, 0, none⟩ = some (.int .i64 (-1)) ∧ X.cell? ⟨w.heap.size + 1 + 1 + 1, 0, none⟩ = some (.map (some (w.heap.size + 1 + 1))) ∧ (X.cell? ⟨w.heap.size + 1 + 1 + 1 + 1, 0, none⟩ = some (.int .i64 0) ∧ X.cell? ⟨w.heap.size + 1 + 1 + 1 + 1, 1, none⟩ = some (.int .i64 4) ∧ X.cell? ⟨w.heap.size + 1 + 1 + 1 + 1, 2, none⟩ = some (.int .i64 0)) ∧
          (X.cell? ⟨g, 0, none⟩ = some (.int .i64 i) ∧ X.cell? ⟨g, 1, none⟩ = some (.int .i64 4) ∧ X.cell? ⟨g, 2, none⟩ = some (.int .i64 0))) →
          (Y.cell? ⟨w.heap.size, 0, none⟩ = some (.int .i64 (-1)) ∧ Y.cell? ⟨w.heap.size + 1 + 1 + 1, 0, none⟩ = some (.map (some (w.heap.size + 1 + 1))) ∧ (Y.cell? ⟨w.heap.size + 1 + 1 + 1 + 1, 0, none⟩ = some (.int .i64 0) ∧ Y.cell? ⟨w.heap.size + 1 + 1 + 1 + 1, 1, none⟩ = some (.int .i64 4) ∧ Y.cell? ⟨w.heap.size + 1 + 1 + 1 + 1, 2, none⟩ = some (.int .i64 0)) ∧
          (Y.cell? ⟨g, 0, none⟩ = some (.int .i64 i) ∧ Y.cell? ⟨g, 1, none⟩ = some (.int .i64 4) ∧ Y.cell? ⟨g, 2, none⟩ = some (.int .i64 0))) := fun X Y hf ⟨h1, h2, ⟨h3, h4, h5⟩, h6, h7, h8⟩ =>
        ⟨hf.cell h1 hn1, hf.cell h2 hn2, ⟨hf.cell h3 hn3, hf.cell h4 hn3, hf.cell h5 hn3⟩, hf.cell h6 hgs, hf.cell h7 hgs, hf.cell h8 hgs⟩

      have HkS := Lib.hid keepS
      have Hdr := Lib.hid (show Fr (fun k => k = w.heap.size + 1 + 1) U U.drew from Fr.of_below _ (Below.refl _ U).drew)
      have C1 := Lib.hid (cost_k i hi4 (w.heap.size + 1 + 1) (2 * i) U.drew HBk.out (by omega))
      have C2 := Lib.hid (fun W (h : Book W (w.heap.size + 1 + 1) (2 * i + 1)) => show Calls Tryz.prog 190 #[.map (some (w.heap.size + 1 + 1)), .agg #[.int .i64 0, .int .i64 4, .int .i64 0]] W _ from cost_k 0 (by decide) (w.heap.size + 1 + 1) (2 * i + 1) W h (by omega))
      have hcm := cost_more i

      clear keepS hcb HBk
      generalize cost4 0 = cz at *
      generalize cost4 i = ci at *
      refine wpAnyH_ready (rs := [15]) (by kernel_rfl) (by simp) ?_
      refine AllReadyH.cons (by simp only [List.getElem?_toArray, List.getElem?_cons_succ, List.getElem?_cons_zero]; rfl) (fun K hK => ?_) ?_
      · go_simp
        refine C1.out.mono ?_
        rintro e w1 ⟨rfl, hb1, hf1⟩
        refine hK.out _ _ (HkS.out _ _ hf1 hHeld) (fun hH1 => ?_)
        clear hK K
        try simp only [Act.put, List.setIfInBounds_toArray, List.set_cons_zero, List.set_cons_succ]
        have F1 := Lib.hid (Hdr.out.trans hf1)
        replace hb1 := Lib.hid hb1
        clear hf1
        refine wpAnyH_ready (rs := [18]) (by kernel_rfl) (by simp) ?_
        refine AllReadyH.cons (by simp only [List.getElem?_toArray, List.getElem?_cons_succ, List.getElem?_cons_zero]; rfl) (fun K hK => ?_) ?_
        · go_simp
          refine (C2.out _ hb1.out).mono ?_
          rintro e w2 ⟨rfl, hb2, hf2⟩
          refine hK.out _ _ (HkS.out _ _ hf2 hH1) (fun hH2 => ?_)
          clear hK K
          try simp only [Act.put, List.setIfInBounds_toArray, List.set_cons_zero, List.set_cons_succ]
          have F2 := Lib.hid (F1.out.trans hf2)
          replace hb2 := Lib.hid hb2
          clear hf2
          refine wpAnyH_take (i := 19) (v := ?_) (by simp only [List.getElem?_toArray, List.getElem?_cons_succ, List.getElem?_cons_zero]; rfl) (by kernel_rfl) (by kernel_rfl) (by kernel_rfl) (fun _ _ _ h => h) (Or.inl ⟨by rfl, ?_⟩) (by assumption) ?_
          rotate_left 1
          · (intro wS hSw; (try dsimp only at hSw); go_simp; (try with_reducible rfl))
          try simp only [Act.put, List.setIfInBounds_toArray, List.set_cons_zero, List.set_cons_succ]
          refine wpAnyH_take (i := 20) (v := ?_) (by simp only [List.getElem?_toArray, List.getElem?_cons_succ, List.getElem?_cons_zero]; rfl) (by kernel_rfl) (by kernel_rfl) (by kernel_rfl) (fun _ _ _ h => h) (Or.inl ⟨by rfl, ?_⟩) (by assumption) ?_
          rotate_left 1
          · (intro wS hSw; (try dsimp only at hSw); go_simp; (try with_reducible rfl))
          try simp only [Act.put, List.setIfInBounds_toArray, List.set_cons_zero, List.set_cons_succ]
          refine wpAnyH_take (i := 21) (v := ?_) (by simp only [List.getElem?_toArray, List.getElem?_cons_succ, List.getElem?_cons_zero]; rfl) (by kernel_rfl) (by kernel_rfl) (by kernel_rfl) (fun _ _ _ h => h) (Or.inl ⟨by rfl, ?_⟩) (by assumption) ?_
          rotate_left 1
          · (intro wS hSw; (try dsimp only at hSw); go_simp; (try with_reducible rfl))
          try simp only [Act.put, List.setIfInBounds_toArray, List.set_cons_zero, List.set_cons_succ]
          refine wpAnyH_done (by kernel_rfl) ?_ _
          refine OnlyNormal.normal ?_
          clear hH2 hH1 hHeld
          gi_wp2
          refine ⟨(Hfin.out _ hb2.out F2.out).1, (Hfin.out _ hb2.out F2.out).2.1, ?_⟩
          show ChI _ _ _ (pre ++ _).length
          rw [hlen]
          exact (Hfin.out _ hb2.out F2.out).2.2
        exact AllReadyH.nil
      exact AllReadyH.nil
  case done =>
    rintro D xs U hD rfl hi hm
    have hi4 : ChI w.heap.size w U 4 := hi
    have b0 := hi4.cb.cell 0
    have b1 := hi4.cb.cell 1
    have b2 := hi4.cb.cell 2
    unfold bestC at b0 b1 b2
    have z0 := hi4.cr.cell 0
    have z1 := hi4.cr.cell 1
    have z2 := hi4.cr.cell 2
    have f0 := hi4.cr.frozen 0
    have f1 := hi4.cr.frozen 1
    have f2 := hi4.cr.frozen 2
    have KR := Lib.hid (((hi4.cr.set_ 0 (.int .i64 0)).set_ 1 (.int .i64 4)).set_ 2 (.int .i64 0))
    have HBE := Lib.hid (((hi4.bel.setCell (p := ⟨w.heap.size + 1, 0, none⟩) (by simp) (.int .i64 0)).setCell (p := ⟨w.heap.size + 1, 1, none⟩) (by simp) (.int .i64 4)).setCell (p := ⟨w.heap.size + 1, 2, none⟩) (by simp) (.int .i64 0))
    have hm2 := Lib.hid ((((KeepsOthers.setCell U ⟨w.heap.size + 1, 0, none⟩ (.int .i64 0)).trans (KeepsOthers.setCell _ ⟨w.heap.size + 1, 1, none⟩ (.int .i64 4))).trans (KeepsOthers.setCell _ ⟨w.heap.size + 1, 2, none⟩ (.int .i64 0))).same D _ hm rfl)
    have HBF := Lib.hid (HBE.out.trans (below_putObj w.heap.size _ D (.deferred none) (by omega)))
    have KD := KR.out.record (o' := .deferred none) hm2.out rfl
    simp only [List.setIfInBounds_toArray, List.set_cons_zero, List.set_cons_succ] at KD
    have r0 := KD.cell 0
    have r1 := KD.cell 1
    have r2 := KD.cell 2
    clear hm hi hi4 HBE KD
    gi_wp2
    refine ⟨by simp, .inl ⟨_, _, rfl, run_takeDeferred hm2.out, ?_⟩⟩
    exact ⟨.tuple #[.agg #[.int .i64 0, .int .i64 4, .int .i64 0], .int .i64 0], by simp [results, Tryz.results132, go_sem, r0, r1, r2], rfl, HBF.out⟩
  case stop =>
    rintro D c pre U hD _ h hm
    exact h.elim
end Go.Proofs.YtpkpadepccneeaaGreatDoor

/- The walks of cache.Get, Put and Choose on a new cache, at length 4 in the field of 5, way -1. No condition. -/
namespace Go.Proofs.YtpkpadepccneeaaGreatDoor
set_option linter.unusedVariables false
set_option linter.unusedSimpArgs false
open Go Go.RowKit Go.Shelf Go.Maps
theorem zero54 (w : World) : (zeroValue 54).run Tryz.prog w = .ok (.agg #[.int .i64 0, .int .i64 0, .int .i64 0]) w := by kernel_rfl
theorem key52 : Keyed Tryz.prog 52 := Keyed.of_law (deep_law_laid laid54 (m := 3) (by omega) (of_decide_eq_true (by kernel_rfl)) (by kernel_rfl) (by rw [Tryz.underlying52]))
/-- The key of length 4, field 5, way -1. -/
def kc : Lit := .string ([0, 0, 0, 0, 0, 0, 0, 5] ++ [0, 0, 0, 0, 0, 0, 0, 4] ++ List.replicate 8 255)
def kv : Value := .agg #[.int .u64 5, .int .i64 4, .int .i64 (-1)]
theorem key52_kc : keyOf Tryz.prog 52 (.agg #[.int .u64 5, .int .i64 4, .int .i64 (-1)]) = some kc := by kernel_rfl
/-- The map of a cache, as it stands. -/
def KM (w : World) (b n : Nat) (D : DataW Value) : Prop := w.ownsMap Tryz.prog 52 tok b n D
theorem look_new {w : World} {m n : Nat} (h : KM w m n (.map [])) : (Instr.lookup 109 (.map (some m)) (.agg #[.int .u64 5, .int .i64 4, .int .i64 (-1)]) true).run Tryz.prog w = .ok (.tuple #[.agg #[.int .i64 0, .int .i64 0, .int .i64 0], .bool false]) w := by
  obtain ⟨v, ps, hr, hv⟩ := World.ownsMap.look_ok (zd := .held (.agg #[.int .i64 0, .int .i64 0, .int .i64 0])) (zp := []) h key52 Tryz.underlying109 (zero54 w) rfl key52_kc
  obtain rfl := tok_eq (show tok v = some (.held (.agg #[.int .i64 0, .int .i64 0, .int .i64 0]), ps) from hv)
  exact hr
/-- A plan's three cells, written. -/
theorem put3 {X : World} {g : Nat} {a b c : Value} (h : Blk X g 54 #[a, b, c]) (v0 v1 v2 : Value) :
    Blk (((X.setCell ⟨g, 0, none⟩ v0).setCell ⟨g, 1, none⟩ v1).setCell ⟨g, 2, none⟩ v2) g 54 #[v0, v1, v2] ∧ Fr (fun i => i = g) X (((X.setCell ⟨g, 0, none⟩ v0).setCell ⟨g, 1, none⟩ v1).setCell ⟨g, 2, none⟩ v2) := by
  refine ⟨?_, ((Fr.setCell (S := fun i => i = g) (p := ⟨g, 0, none⟩) rfl _ _).trans (Fr.setCell (S := fun i => i = g) (p := ⟨g, 1, none⟩) rfl _ _)).trans (Fr.setCell (S := fun i => i = g) (p := ⟨g, 2, none⟩) rfl _ _)⟩
  have h3 := ((h.set_ 0 v0).set_ 1 v1).set_ 2 v2
  simp only [List.setIfInBounds_toArray, List.set_cons_zero, List.set_cons_succ] at h3
  exact h3
theorem Fr.or {S T : Nat → Prop} {w w1 w2 : World} (h : Fr S w w1) (k : Fr T w1 w2) {U : Nat → Prop} (hS : ∀ i, i < w.heap.size → S i → U i) (hT : ∀ i, i < w.heap.size → T i → U i) : Fr U w w2 :=
  ⟨k.os.trans h.os, k.tape.trans h.tape, k.output.trans h.output, Nat.le_trans h.size k.size, fun i hi hu => (k.block i (Nat.lt_of_lt_of_le hi h.size) (fun hs => hu (hT i hi hs))).trans (h.block i hi (fun hs => hu (hS i hi hs)))⟩
set_option maxHeartbeats 1000000 in
theorem Get_new (c m n : Nat) (w : World) (hc : Blk w c 112 (cacheCs 1 (.slice none 0 0) m 0 0)) (hm : KM w m n (.map [])) :
    Calls Tryz.prog 131 #[.pointer (some ⟨c, 0, none⟩), .agg #[.int .u64 5, .int .i64 4, .int .i64 (-1)]] w fun e w' => e = .returned (.tuple #[.agg #[.int .i64 0, .int .i64 0, .int .i64 0], .bool false]) ∧
      Fr (fun i => i = c) w w' ∧ Blk w' c 112 (cacheCs 1 (.slice none 0 0) m 0 1) := by
  have hcw := hc.lt
  have hb := (((Below.refl w.heap.size w).alloc (Nat.le_refl _) (.cells #[.int .u64 5, .int .i64 4, .int .i64 (-1)] 52)).alloc (by simp) (.cells #[.int .i64 0, .int .i64 0, .int .i64 0] 54)).alloc (by simp; omega) (.cells #[.int .i64 0, .int .i64 0, .int .i64 0] 54)
  have HB := Lib.hid hb
  have K0 := ((Blk.new w 52 #[.int .u64 5, .int .i64 4, .int .i64 (-1)]).alloc (.cells #[.int .i64 0, .int .i64 0, .int .i64 0] 54)).alloc (.cells #[.int .i64 0, .int .i64 0, .int .i64 0] 54)
  have K1 := (Blk.new (w.alloc (.cells #[.int .u64 5, .int .i64 4, .int .i64 (-1)] 52)) 54 #[.int .i64 0, .int .i64 0, .int .i64 0]).alloc (.cells #[.int .i64 0, .int .i64 0, .int .i64 0] 54)
  have K2 := Blk.new ((w.alloc (.cells #[.int .u64 5, .int .i64 4, .int .i64 (-1)] 52)).alloc (.cells #[.int .i64 0, .int .i64 0, .int .i64 0] 54)) 54 #[.int .i64 0, .int .i64 0, .int .i64 0]
  simp only [World.size_alloc] at K1 K2
  have KC := Lib.hid (hc.below hb hc.lt)
  have KMM := Lib.hid (show KM _ m n (.map []) from (Fr.of_below (fun _ => False) hb).map hm (fun h => h))
  have hne : ¬ c = w.heap.size := by omega
  go_enter Tryz.func131, Tryz.ntmps131
  go_wp2_with fail
  have HK0 := Lib.hid K0
  have HK1 := Lib.hid K1
  have HK2 := Lib.hid K2
  have hs3 : (((w.alloc (.cells #[.int .u64 5, .int .i64 4, .int .i64 (-1)] 52)).alloc (.cells #[.int .i64 0, .int .i64 0, .int .i64 0] 54)).alloc (.cells #[.int .i64 0, .int .i64 0, .int .i64 0] 54)).heap.size = w.heap.size + 3 := by simp
  clear hb K0 K1 K2 hc hm
  generalize ((w.alloc (.cells #[.int .u64 5, .int .i64 4, .int .i64 (-1)] 52)).alloc (.cells #[.int .i64 0, .int .i64 0, .int .i64 0] 54)).alloc (.cells #[.int .i64 0, .int .i64 0, .int .i64 0] 54) = W at *
  have hl1 := look_new (show KM W.drew m n (.map []) from KMM.out)
  have hl2 := look_new (show KM (W.alloc (.cells #[.int .i64 0, .int .i64 0, .int .i64 0] 54)).drew m n (.map []) from World.ownsMap.alloc (show KM W m n (.map []) from KMM.out) _)
  have hcW : c < W.heap.size := by omega
  have hsW : w.heap.size < W.heap.size := by omega
  replace hs3 := Lib.hid hs3
  have k0 := HK0.out.cell 0
  have k1 := HK0.out.cell 1
  have k2 := HK0.out.cell 2
  have c2 : W.cell? ⟨c, 2, none⟩ = some (.map (some m)) := KC.out.cell 2
  have B2 := Lib.hid (HB.out.trans (((Below.refl W.heap.size W).alloc (Nat.le_refl _) (.cells #[.int .i64 0, .int .i64 0, .int .i64 0] 54)).drew.mono (by omega)))
  have C2 := Lib.hid (show Blk (W.alloc (.cells #[.int .i64 0, .int .i64 0, .int .i64 0] 54)).drew c 112 (cacheCs 1 (.slice none 0 0) m 0 0) from KC.out.alloc _)
  have R2 := Lib.hid (show Blk (W.alloc (.cells #[.int .i64 0, .int .i64 0, .int .i64 0] 54)).drew (w.heap.size + 1) 54 #[.int .i64 0, .int .i64 0, .int .i64 0] from HK1.out.alloc _)
  have Z2 := Lib.hid (show Blk (W.alloc (.cells #[.int .i64 0, .int .i64 0, .int .i64 0] 54)).drew (w.heap.size + 1 + 1) 54 #[.int .i64 0, .int .i64 0, .int .i64 0] from HK2.out.alloc _)
  go_region
  all_goals (
    clear hl1 hl2 k0 k1 k2 c2
    generalize W.heap.size = sW at *
    generalize (W.alloc (.cells #[.int .i64 0, .int .i64 0, .int .i64 0] 54)).drew = X at *
    have c4 : X.cell? ⟨c, 4, none⟩ = some (.int .i64 0) := C2.out.cell 4
    have d4 := C2.out.frozen 4
    have z0 := Z2.out.cell 0
    have z1 := Z2.out.cell 1
    have z2 := Z2.out.cell 2
    have r0 := R2.out.cell 0
    have r1 := R2.out.cell 1
    have r2 := R2.out.cell 2
    have f0 := R2.out.frozen 0
    have f1 := R2.out.frozen 1
    have f2 := R2.out.frozen 2
    have n1 : ¬ c = w.heap.size + 1 := by omega
    have n2 : ¬ c = w.heap.size + 1 + 1 := by omega
    have n3 : ¬ w.heap.size + 1 = c := by omega
    have n4 : ¬ w.heap.size + 1 + 1 = c := by omega
    have C3 := C2.out.set_ 4 (.int .i64 1)
    have F3 := Fr.setCell (S := fun i => i = c) (p := ⟨c, 4, none⟩) rfl X (.int .i64 1)
    obtain ⟨Y1, Y2⟩ := put3 (F3.blk R2.out n3) (.int .i64 0) (.int .i64 0) (.int .i64 0)
    have q0 := Y1.cell 0
    have q1 := Y1.cell 1
    have q2 := Y1.cell 2
    have YC := Lib.hid (show Blk _ c 112 (cacheCs 1 (.slice none 0 0) m 0 1) from Y2.blk C3 n1)
    have YF := Lib.hid (show Fr (fun i => i = c) w _ from ((Fr.of_below (fun i => i = c) B2.out).trans F3).or Y2 (fun i _ h => h) (fun i hi h => by omega))
    clear C3 F3 Y1 Y2
    go_wp2_with fail
    exact bodyPost_ret (v := .tuple #[.agg #[.int .i64 0, .int .i64 0, .int .i64 0], .bool false]) (by simp [results, Tryz.results131, go_sem, q0, q1, q2]) rfl ⟨rfl, YF.out, YC.out⟩)
/-- 'append(out, x)' of an element of several cells, as a run. -/
theorem append_runX {α : Type} (W : World) (T e : TypeId) (enc : α → List Value) (sz : Nat) (z : Value) (bytes : Nat) (ht : Tryz.prog.underlying T = some (.slice e))
    (hi : (Tryz.prog.info? e).map (fun i => (i.zero, i.size, i.bytes)) = some (some z, sz, bytes)) (hby : bytes ≤ 64) (hz : z.cells.size = sz) (hsz : 0 < sz) (B : Nat) (v : Value) (l : List α) (y : α) (cs : Array Value) (hcs : cs.toList = enc y)
    (hown : OX enc sz e W B v l) (hys : (enc y).length = sz) (h1c : ∀ u ∈ enc y, u.oneCell' = true) (hlen : l.length + 1 ≤ 17592186044) (hB : B ≤ W.heap.size) :
    ∃ g cap W', (Builtin.append_ #[T, T] T #[v, .slice (some ⟨W.heap.size, 0, none⟩) 1 1]).run Tryz.prog (W.alloc (.cells cs e)) = .ok (.slice (some ⟨g, 0, none⟩) (l.length + 1) cap) W' ∧
      OX enc sz e W' B (.slice (some ⟨g, 0, none⟩) (l.length + 1) cap) (l ++ [y]) ∧ Below B W W' ∧ W.heap.size < W'.heap.size := by
  obtain ⟨i0, h1, h2, h3, h4⟩ := info_parts hi
  obtain ⟨g, cap, W', hr, ho, hg, _, _⟩ := run_append_lies (P := Tryz.prog) (W.alloc (.cells cs e)) T T B e i0 z sz bytes ht h1 h2 h3 h4 hz hsz v l.length (l.flatMap enc) (OX.alloc hown _)
    ⟨W.heap.size, 0, none⟩ 1 1 (enc y) (by rw [hys, Nat.one_mul]) (by
      intro j u hj
      rw [← hcs] at hj
      have hb : Blk (W.alloc (.cells cs e)) W.heap.size e cs := Blk.new W e cs
      have := hb.cell j
      rw [show (⟨W.heap.size, 0, none⟩ : Addr).add j = ⟨W.heap.size, j, none⟩ by unfold Addr.add; by_cases h : j = 0 <;> simp [h]]
      rw [this, ← hj]
      simp) h1c (by decide) (by unfold maxLen; omega) (by
      calc (l.length + 1) * bytes ≤ (l.length + 1) * 64 := Nat.mul_le_mul_left _ hby
        _ ≤ 140737488355328 := by omega) (by simp; omega) _ rfl
  refine ⟨g, cap, W', hr, ?_, ((Below.refl _ _).alloc hB _).grown hg (by simp; omega) (fun g hg' => (hown.lt g hg').1), by have := hg.size; simp at this; omega⟩
  unfold OX; simpa using ho
theorem info52 : (Tryz.prog.info? 52).map (fun i => (i.zero, i.size, i.bytes)) = some (some (.agg #[.int .u64 0, .int .i64 0, .int .i64 0]), 3, 24) := by kernel_rfl
attribute [-go_sem] Go.Builtin.append_
set_option maxRecDepth 100000 in
set_option maxHeartbeats 1000000 in
theorem Put_new (c m n : Nat) (w : World) (hc : Blk w c 112 (cacheCs 1 (.slice none 0 0) m 0 1)) (hm : KM w m n (.map [])) (hn : n < 1000) (hcm : c ≠ m) :
    Calls Tryz.prog 133 #[.pointer (some ⟨c, 0, none⟩), .agg #[.int .u64 5, .int .i64 4, .int .i64 (-1)], .agg #[.int .i64 0, .int .i64 4, .int .i64 0]] w fun e w' => e = .returned undef ∧
      (∃ A cap, Blk w' c 112 (cacheCs 1 (.slice A 1 cap) m 0 1)) ∧ Fr (fun i => i = c ∨ i = m) w w' := by
  have hcw := hc.lt
  have hmw : m < w.heap.size := World.ownsMap.lt hm
  have hb := ((Below.refl w.heap.size w).alloc (Nat.le_refl _) (.cells #[.int .u64 5, .int .i64 4, .int .i64 (-1)] 52)).alloc (by simp) (.cells #[.int .i64 0, .int .i64 4, .int .i64 0] 54)
  have HB := Lib.hid hb
  have K0 := (Blk.new w 52 #[.int .u64 5, .int .i64 4, .int .i64 (-1)]).alloc (.cells #[.int .i64 0, .int .i64 4, .int .i64 0] 54)
  have K1 := Blk.new (w.alloc (.cells #[.int .u64 5, .int .i64 4, .int .i64 (-1)] 52)) 54 #[.int .i64 0, .int .i64 4, .int .i64 0]
  simp only [World.size_alloc] at K1
  have KC := Lib.hid (hc.below hb hc.lt)
  have KMM := Lib.hid (show KM _ m n (.map []) from (Fr.of_below (fun _ => False) hb).map hm (fun h => h))
  have hne : ¬ c = w.heap.size := by omega
  have r0 : ((w.alloc (.cells #[.int .u64 5, .int .i64 4, .int .i64 (-1)] 52)).alloc (.cells #[.int .i64 0, .int .i64 4, .int .i64 0] 54)).cell? ⟨c, 0, none⟩ = some (.int .i64 1) := KC.out.cell 0
  go_enter Tryz.func133, Tryz.ntmps133
  go_wp2_with fail
  have HK0 := Lib.hid K0
  have HK1 := Lib.hid K1
  have hs3 : ((w.alloc (.cells #[.int .u64 5, .int .i64 4, .int .i64 (-1)] 52)).alloc (.cells #[.int .i64 0, .int .i64 4, .int .i64 0] 54)).heap.size = w.heap.size + 2 := by simp
  clear hb K0 K1 hc hm
  generalize (w.alloc (.cells #[.int .u64 5, .int .i64 4, .int .i64 (-1)] 52)).alloc (.cells #[.int .i64 0, .int .i64 4, .int .i64 0] 54) = W at *
  have hl1 := look_new (show KM W.drew m n (.map []) from KMM.out)
  have hl2 := look_new (show KM (W.alloc (.cells #[.int .i64 0, .int .i64 0, .int .i64 0] 54)).drew m n (.map []) from World.ownsMap.alloc (show KM W m n (.map []) from KMM.out) _)
  have hcW : c < W.heap.size := by omega
  have hsW : w.heap.size < W.heap.size := by omega
  have B2 := Lib.hid (HB.out.trans (((Below.refl W.heap.size W).alloc (Nat.le_refl _) (.cells #[.int .i64 0, .int .i64 0, .int .i64 0] 54)).drew.mono (by omega)))
  have C2 := Lib.hid (show Blk (W.alloc (.cells #[.int .i64 0, .int .i64 0, .int .i64 0] 54)).drew c 112 (cacheCs 1 (.slice none 0 0) m 0 1) from KC.out.alloc _)
  have K2 := Lib.hid (show Blk (W.alloc (.cells #[.int .i64 0, .int .i64 0, .int .i64 0] 54)).drew w.heap.size 52 #[.int .u64 5, .int .i64 4, .int .i64 (-1)] from HK0.out.alloc _)
  have L2 := Lib.hid (show Blk (W.alloc (.cells #[.int .i64 0, .int .i64 0, .int .i64 0] 54)).drew (w.heap.size + 1) 54 #[.int .i64 0, .int .i64 4, .int .i64 0] from HK1.out.alloc _)
  have M2 := Lib.hid (show KM (W.alloc (.cells #[.int .i64 0, .int .i64 0, .int .i64 0] 54)).drew m n (.map []) from World.ownsMap.alloc (show KM W m n (.map []) from KMM.out) _)
  replace hs3 := Lib.hid hs3
  have k0 := HK0.out.cell 0
  have k1 := HK0.out.cell 1
  have k2 := HK0.out.cell 2
  have c2 : W.cell? ⟨c, 2, none⟩ = some (.map (some m)) := KC.out.cell 2
  clear r0
  go_region
  all_goals (
    clear hl1 hl2 k0 k1 k2 c2 hcW hsW KC KMM HK0 HK1
    generalize W.heap.size = sW at *
    generalize (W.alloc (.cells #[.int .i64 0, .int .i64 0, .int .i64 0] 54)).drew = X at *
    have c0 : X.cell? ⟨c, 0, none⟩ = some (.int .i64 1) := C2.out.cell 0
    have c1 : X.cell? ⟨c, 1, none⟩ = some (.slice none 0 0) := C2.out.cell 1
    go_wp2_with fail
    go_quiet (fail)
    go_wp2_with fail
    have C3 := Lib.hid (C2.out.drewN nq)
    have K3 := Lib.hid (K2.out.drewN nq)
    have L3 := Lib.hid (L2.out.drewN nq)
    have M3 := Lib.hid (show KM (X.drewN nq) m n (.map []) from M2.out)
    have B3 := Lib.hid (below_drewN B2.out nq)
    clear c0 c1 C2 K2 L2 M2 B2
    generalize X.drewN nq = Y at *
    obtain ⟨g, cap, W1, hrun, _, hbw, hsz⟩ := append_runX (α := Unit) Y.drew 110 52 (fun _ => [.int .u64 5, .int .i64 4, .int .i64 (-1)]) 3 (.agg #[.int .u64 0, .int .i64 0, .int .i64 0]) 24 Tryz.underlying110 info52 (by decide) rfl (by decide)
      Y.heap.size (.slice none 0 0) [] () #[.int .u64 5, .int .i64 4, .int .i64 (-1)] rfl (OX.nil _ _ _ _ _) rfl (by intro u hu; simp at hu; rcases hu with rfl | rfl | rfl <;> rfl) (by simp) (Nat.le_refl _)
    have hrun1 : (Builtin.append_ #[110, 110] 110 #[.slice none 0 0, .slice (some ⟨Y.heap.size, 0, none⟩) 1 1]).run Tryz.prog (Y.alloc (.cells #[.int .u64 5, .int .i64 4, .int .i64 (-1)] 52)).drew = .ok (.slice (some ⟨g, 0, none⟩) 1 cap) W1 := hrun
    have hbY : Below Y.heap.size Y W1 := ((Below.refl Y.heap.size Y).drew).trans hbw
    have hbW := Lib.hid (B3.out.trans (hbY.mono B3.out.size))
    have C4 := Lib.hid (C3.out.below hbY C3.out.lt)
    have K4 := Lib.hid (K3.out.below hbY K3.out.lt)
    have L4 := Lib.hid (L3.out.below hbY L3.out.lt)
    have M4 := Lib.hid (show KM W1 m n (.map []) from (Fr.of_below (w := Y) (fun _ => False) hbY).map M3.out (fun h => h))
    clear hrun hbw hbY hsz
    have y1 : Y.cell? ⟨c, 1, none⟩ = some (.slice none 0 0) := C3.out.cell 1
    have y2 := K3.out.cell 0
    have y3 := K3.out.cell 1
    have y4 := K3.out.cell 2
    have h1 : c < Y.heap.size := C3.out.lt
    have h2 : w.heap.size < Y.heap.size := K3.out.lt
    have w1 : W1.cell? ⟨c, 1, none⟩ = some (.slice none 0 0) := C4.out.cell 1
    have w2 := C4.out.frozen 1
    have C5 := Lib.hid (show Blk _ c 112 (cacheCs 1 (.slice (some ⟨g, 0, none⟩) 1 cap) m 0 1) from C4.out.set_ 1 (.slice (some ⟨g, 0, none⟩) 1 cap))
    have F5 := Lib.hid (show Fr (fun i => i = c ∨ i = m) w _ from (Fr.of_below _ hbW.out).trans (Fr.setCell (p := ⟨c, 1, none⟩) (Or.inl rfl) W1 (.slice (some ⟨g, 0, none⟩) 1 cap)))
    have F6 := Fr.setCell (S := fun i => i = c) (p := ⟨c, 1, none⟩) rfl W1 (.slice (some ⟨g, 0, none⟩) 1 cap)
    have K5 := Lib.hid (F6.blk K4.out (by omega))
    have L5 := Lib.hid (F6.blk L4.out (by omega))
    have M5 := Lib.hid (show KM (W1.setCell ⟨c, 1, none⟩ (.slice (some ⟨g, 0, none⟩) 1 cap)) m n (.map []) from F6.map M4.out (fun e => hcm e.symm))
    clear F6
    go_region
    all_goals (
      clear y1 y2 y3 y4 h1 h2 w1 w2 hrun1 C4 K4 L4 M4 C3 K3 L3 M3 hbW
      generalize W1.setCell ⟨c, 1, none⟩ (.slice (some ⟨g, 0, none⟩) 1 cap) = Z at *
      obtain ⟨Z2, hu, _, hg2⟩ := World.ownsMap.update (val := .agg #[.int .i64 0, .int .i64 4, .int .i64 0]) (d := .held (.agg #[.int .i64 0, .int .i64 4, .int .i64 0])) (ps := []) (show KM Z.drew m n (.map []) from M5.out) key52 Tryz.underlying109 (by unfold maxLen; omega) key52_kc rfl
      have z1 : Z.cell? ⟨c, 2, none⟩ = some (.map (some m)) := C5.out.cell 2
      have z2 := K5.out.cell 0
      have z3 := K5.out.cell 1
      have z4 := K5.out.cell 2
      have z5 := L5.out.cell 0
      have z6 := L5.out.cell 1
      have z7 := L5.out.cell 2
      have hF := Fr.of_grown (S := fun i => i = m) hg2 (fun r e => (Option.some.inj e).symm)
      have HC6 := Lib.hid (hF.blk (show Blk Z.drew c 112 _ from C5.out) hcm)
      have HF6 := Lib.hid ((F5.out.trans (Fr.of_below _ (Below.refl _ Z).drew)).or hF (fun i _ h => h) (fun i _ h => Or.inr h))
      clear hg2 hF
      go_wp2_with fail
      go_region
      all_goals go_wp2_with fail
      all_goals exact bodyPost_end (results_none rfl _ _ _) rfl ⟨rfl, ⟨_, _, HC6.out⟩, HF6.out⟩))
end Go.Proofs.YtpkpadepccneeaaGreatDoor

/- The walk of cache.Choose on a new cache, at length 4 in the field of 5, way -1. No condition. -/
namespace Go.Proofs.YtpkpadepccneeaaGreatDoor
set_option linter.unusedVariables false
set_option linter.unusedSimpArgs false
open Go Go.RowKit Go.Shelf Go.Maps
set_option maxRecDepth 100000 in
set_option maxHeartbeats 1000000 in
theorem cacheChoose_4 (c m n gf lo hi : Nat) (w : World) (hf : FB lo hi w gf 5 2) (hc : Blk w c 112 (cacheCs 1 (.slice none 0 0) m 0 0)) (hm : KM w m n (.map [])) (hn : n < 1000) (hcm : c ≠ m) (hlc : c < lo ∨ hi ≤ c) (hlm : m < lo ∨ hi ≤ m) (hhi : hi ≤ w.heap.size) :
    Calls Tryz.prog 77 #[.pointer (some ⟨c, 0, none⟩), .pointer (some ⟨gf, 0, none⟩), .int .i64 4, .int .i64 (-1)] w fun e w' => e = .returned (.tuple #[.agg #[.int .i64 0, .int .i64 4, .int .i64 0], .int .i64 0]) ∧
      (∃ A cap, Blk w' c 112 (cacheCs 1 (.slice A 1 cap) m 0 1)) ∧ Fr (fun i => i = c ∨ i = m) w w' := by
  have hcw := hc.lt
  have hmw : m < w.heap.size := World.ownsMap.lt hm
  have HB := Lib.hid ((Below.refl w.heap.size w).alloc (Nat.le_refl _) (.cells #[.int .i64 0, .int .i64 0, .int .i64 0] 54))
  have HF := Lib.hid (hf.below HB.out)
  have KC := Lib.hid (hc.alloc (.cells #[.int .i64 0, .int .i64 0, .int .i64 0] 54))
  have KMM := Lib.hid (show KM (w.alloc (.cells #[.int .i64 0, .int .i64 0, .int .i64 0] 54)) m n (.map []) from World.ownsMap.alloc hm _)
  have RZ := Lib.hid (Blk.new w 54 #[.int .i64 0, .int .i64 0, .int .i64 0])
  have CP := fP_rd gf 5 2 _ HF.out.fd
  clear hf hc hm
  go_enter Tryz.func77, Tryz.ntmps77
  go_wp2_with fail
  with_reducible refine CP.now.mono ?_
  rintro e_ w_ ⟨rfl, k1, rfl⟩
  have B1 := Lib.hid (below_drewN HB.out k1)
  have S1 : ((w.alloc (.cells #[.int .i64 0, .int .i64 0, .int .i64 0] 54)).drewN k1).heap.size = w.heap.size + 1 := by show (w.alloc _).heap.size = _; simp
  have HF1 := Lib.hid (HF.out.below (below_drewN (Below.refl _ _) k1))
  have KC1 := Lib.hid (KC.out.drewN k1)
  have KM1 := Lib.hid (show KM ((w.alloc (.cells #[.int .i64 0, .int .i64 0, .int .i64 0] 54)).drewN k1) m n (.map []) from KMM.out)
  have RZ1 := Lib.hid (RZ.out.drewN k1)
  clear HB HF KC KMM RZ CP
  generalize (w.alloc (.cells #[.int .i64 0, .int .i64 0, .int .i64 0] 54)).drewN k1 = W1 at *
  have hb2 := (Below.refl W1.heap.size W1).alloc (Nat.le_refl _) (.cells #[.int .u64 5, .int .i64 4, .int .i64 (-1)] 52)
  have G := Lib.hid (Get_new c m n _ (KC1.out.alloc (.cells #[.int .u64 5, .int .i64 4, .int .i64 (-1)] 52)) (World.ownsMap.alloc KM1.out _))
  have FA := Fr.of_below (fun i => i = c ∨ i = m) hb2
  have HF2 := Lib.hid (HF1.out.below hb2)
  have KM2 := Lib.hid (show KM (W1.alloc (.cells #[.int .u64 5, .int .i64 4, .int .i64 (-1)] 52)) m n (.map []) from World.ownsMap.alloc KM1.out _)
  have RZ2 := Lib.hid (RZ1.out.alloc (.cells #[.int .u64 5, .int .i64 4, .int .i64 (-1)] 52))
  have KYa := Blk.new W1 52 #[.int .u64 5, .int .i64 4, .int .i64 (-1)]
  rw [S1] at KYa
  have KY2 := Lib.hid KYa
  clear KYa
  have F2 := Lib.hid ((Fr.of_below (fun i => i = c ∨ i = m) B1.out).trans FA)
  have S2 : (W1.alloc (.cells #[.int .u64 5, .int .i64 4, .int .i64 (-1)] 52)).heap.size = W1.heap.size + 1 := by simp
  clear hb2 FA B1 HF1 KC1 KM1 RZ1
  go_wp2_with fail
  with_reducible refine (G.out).mono ?_
  rintro e w3 ⟨rfl, hf3, hc3⟩
  have C3 := Lib.hid hc3
  have HF3 := Lib.hid (HF2.out.fr hf3 (fun i h1 h2 e => by omega))
  have KM3 := Lib.hid (show KM w3 m n (.map []) from hf3.map KM2.out (fun e => hcm e.symm))
  have RZ3 := Lib.hid (hf3.blk RZ2.out (by omega))
  have KY3 := Lib.hid (hf3.blk KY2.out (by omega))
  have F3 := Lib.hid (F2.out.trans (hf3.mono (fun i _ h => Or.inl h)))
  have S3 : w.heap.size + 2 ≤ w3.heap.size := by have := hf3.size; omega
  clear hc3 hf3 KM2 RZ2 KY2 F2 HF2 G S2
  have hb4 := (Below.refl w3.heap.size w3).alloc (Nat.le_refl _) (.cells #[.int .i64 0, .int .i64 0, .int .i64 0] 54)
  have C4 := Lib.hid (C3.out.alloc (.cells #[.int .i64 0, .int .i64 0, .int .i64 0] 54))
  have HF4 := Lib.hid (HF3.out.below hb4)
  have KM4 := Lib.hid (show KM (w3.alloc (.cells #[.int .i64 0, .int .i64 0, .int .i64 0] 54)) m n (.map []) from World.ownsMap.alloc KM3.out _)
  have RZ4 := Lib.hid (RZ3.out.alloc (.cells #[.int .i64 0, .int .i64 0, .int .i64 0] 54))
  have KY4 := Lib.hid (KY3.out.alloc (.cells #[.int .i64 0, .int .i64 0, .int .i64 0] 54))
  have F4 := Lib.hid (F3.out.trans (Fr.of_below _ hb4))
  clear hb4 C3 HF3 KM3 RZ3 KY3 F3
  have CC := Lib.hid (Choose_4 gf _ HF4.out.fd)
  go_wp2_with fail
  with_reducible refine (CC.out).mono ?_
  rintro e w5 ⟨rfl, hb5⟩
  have C5 := Lib.hid (C4.out.below hb5 C4.out.lt)
  have KM5 := Lib.hid (show KM w5 m n (.map []) from (Fr.of_below (fun _ => False) hb5).map KM4.out (fun h => h))
  have RZ5 := Lib.hid (RZ4.out.below hb5 RZ4.out.lt)
  have KY5 := Lib.hid (KY4.out.below hb5 KY4.out.lt)
  have F5 := Lib.hid (F4.out.trans (Fr.of_below _ hb5))
  have S5 := hb5.size
  rw [World.size_alloc] at S5
  clear hb5 C4 KM4 RZ4 KY4 F4 HF4 CC
  have hb6 := (Below.refl w5.heap.size w5).alloc (Nat.le_refl _) (.cells #[.int .i64 0, .int .i64 4, .int .i64 0] 54)
  have PP := Lib.hid (Put_new c m n _ (C5.out.alloc (.cells #[.int .i64 0, .int .i64 4, .int .i64 0] 54)) (World.ownsMap.alloc KM5.out _) hn hcm)
  have RZ6 := Lib.hid (RZ5.out.alloc (.cells #[.int .i64 0, .int .i64 4, .int .i64 0] 54))
  have PL6 := Lib.hid (Blk.new w5 54 #[.int .i64 0, .int .i64 4, .int .i64 0])
  have F6 := Lib.hid (F5.out.trans (Fr.of_below _ hb6))
  have k0 := KY5.out.cell 0
  have k1 := KY5.out.cell 1
  have k2 := KY5.out.cell 2
  have hlt6 : w.heap.size + 1 < w5.heap.size := KY5.out.lt
  clear hb6 C5 KM5 RZ5 F5
  go_wp2_with fail
  with_reducible refine (PP.out).mono ?_
  rintro e w7 ⟨rfl, ⟨A, cap, hc7⟩, hf7⟩
  have C7 := Lib.hid hc7
  have RZ7 := hf7.blk RZ6.out (by omega)
  have PL7 := hf7.blk PL6.out (by omega)
  have F7 := Lib.hid (F6.out.trans hf7)
  have r0 := RZ7.cell 0
  have r1 := RZ7.cell 1
  have r2 := RZ7.cell 2
  have f0 := RZ7.frozen 0
  have f1 := RZ7.frozen 1
  have f2 := RZ7.frozen 2
  have p0 := PL7.cell 0
  have p1 := PL7.cell 1
  have p2 := PL7.cell 2
  obtain ⟨Y1, Y2⟩ := put3 RZ7 (.int .i64 0) (.int .i64 4) (.int .i64 0)
  have q0 := Y1.cell 0
  have q1 := Y1.cell 1
  have q2 := Y1.cell 2
  have YC := Lib.hid (Y2.blk C7.out (by omega))
  have YF := Lib.hid (F7.out.or Y2 (U := fun i => i = c ∨ i = m) (fun i _ h => h) (fun i hi h => by omega))
  clear hc7 hf7 Y1 Y2 RZ7 PL7 k0 k1 k2
  go_wp2_with fail
  exact bodyPost_ret (v := .tuple #[.agg #[.int .i64 0, .int .i64 4, .int .i64 0], .int .i64 0]) (by simp [results, Tryz.results77, go_sem, q0, q1, q2]) rfl ⟨rfl, ⟨_, _, YC.out⟩, YF.out⟩
end Go.Proofs.YtpkpadepccneeaaGreatDoor
