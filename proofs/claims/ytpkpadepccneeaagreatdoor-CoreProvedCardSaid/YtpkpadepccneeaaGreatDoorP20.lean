/- The walk of plan.of's iterator, at the ways of length 4 in the field of 5. No condition. -/
import Derived.Test.YtpkpadepccneeaaGreatDoorP18
import Derived.Test.YtpkpadepccneeaaGreatDoorP19
import Derived.LoopNIn
import Derived.Sort.CutIn
import Derived.Deep.RegionHeld3
import Derived.Test.YtpkpadepccneeaaGreatDoorP17
import Derived.Maps.OwnSet
import Derived.DeepKeys5
import Derived.Test.YtpkpadepccneeaaGreatDoorP14
namespace Go.Proofs.YtpkpadepccneeaaGreatDoor
set_option linter.unusedVariables false
set_option linter.unusedSimpArgs false
open Go Go.RowKit Go.Shelf
attribute [local go_sem] Oper.semAt_some
/-- A plan. -/
structure Pl where
  k : Int
  n : Int
  a : Int
deriving DecidableEq, Inhabited
def Pl.enc (p : Pl) : Array Value := #[.agg #[.int .i64 p.k, .int .i64 p.n, .int .i64 p.a]]
/-- What the iterator's captured variables hold. -/
structure OfBox (w : World) (bk bn bf gf : Nat) (k n : Int) : Prop where
  ck : w.cell? ⟨bk, 0, none⟩ = some (.int .i64 k)
  cn : w.cell? ⟨bn, 0, none⟩ = some (.int .i64 n)
  cf : w.cell? ⟨bf, 0, none⟩ = some (.pointer (some ⟨gf, 0, none⟩))
theorem OfBox.below {w w1 : World} {bk bn bf gf : Nat} {k n : Int} (h : OfBox w bk bn bf gf k n) (hb : Below w.heap.size w w1) : OfBox w1 bk bn bf gf k n := ⟨bcell hb h.ck, bcell hb h.cn, bcell hb h.cf⟩
def OfStops (m : Nat) (bk bn bf : Nat) (ps : List Pl) (w : World) : Prop :=
  RangeE.Stops False Fence.wide m Tryz.prog 288 #[.pointer (some ⟨bk, 0, none⟩), .pointer (some ⟨bn, 0, none⟩), .pointer (some ⟨bf, 0, none⟩)] Pl.enc (fun _ _ _ => True) (fun xs => xs = ps) (fun _ => True) (fun pre x => pre ++ [x] <+: ps) w
set_option maxRecDepth 100000 in
set_option maxHeartbeats 4000000 in
theorem of_plain (k : Int) (hk : k ≠ 4 ∧ k ≠ 5 ∧ k ≠ 6) (m : Nat) (hm : 1 ≤ m) (bk bn bf gf : Nat) (w : World) (hf : FD w gf 5 2) (ho : OfBox w bk bn bf gf k 4)
    (HF : ∀ W, FD W gf 5 2 → Calls Tryz.prog 136 #[.pointer (some ⟨gf, 0, none⟩), .agg #[.int .i64 k, .int .i64 4, .int .i64 0]] W fun e w' => e = .returned (.int .i64 0) ∧ Below W.heap.size W w' ∧ W.heap.size < w'.heap.size) :
    OfStops m bk bn bf [⟨k, 4, 0⟩] w := by
  intro L J Jx W hW hJ hJx hY h0
  have hB := Lib.hid (ho.below hW)
  have HFD := Lib.hid (hf.below hW)
  have HF := Lib.hid HF
  have HJ := Lib.hid hJ
  have HJ0 := Lib.hid h0
  have HY := Lib.hid hY
  have g4 : (k == 4) = false := beq_eq_false_iff_ne.2 hk.1
  have g5 : (k == 5) = false := beq_eq_false_iff_ne.2 hk.2.1
  have g6 : (k == 6) = false := beq_eq_false_iff_ne.2 hk.2.2
  have ck := hB.out.ck
  have cn := hB.out.cn
  have cf := hB.out.cf
  have hbf : bf < W.heap.size := World.block_lt_of_cell? W _ cf
  have CF := Lib.hid (HF.out _ (HFD.out.below ((Below.refl W.heap.size W).alloc (Nat.le_refl _) (.cells #[.int .i64 k, .int .i64 4, .int .i64 0] 54))))
  have K0 := Lib.hid (Blk.new W 54 #[.int .i64 k, .int .i64 4, .int .i64 0])
  clear hJ hY hJx h0 ho hf hW hk
  refine callsIn_of_wp Tryz.func288 rfl trivial ?_ rfl
  simp only [Tryz.ntmps288, List.size_toArray, List.length_cons, List.length_nil, Nat.reduceAdd, Nat.reduceSub, Array.replicate_succ, Array.replicate_zero, List.push_toArray, List.append_toArray, List.nil_append, List.cons_append]
  gi_wp2
  refine ⟨trivial, ?_⟩
  refine (callsIn_wide.2 CF.out).mono ?_
  rintro e w1 ⟨rfl, hb, hs⟩
  have K1 := Lib.hid (K0.out.below hb K0.out.lt)
  have HJ1 := Lib.hid (HJ.out _ _ w1 none (HJ.out _ W _ none HJ0.out (World.grownBy_alloc W _ none) RangeE.May.none) ⟨hb.os, hb.tape, hb.output, hb.size, fun i hi _ => hb.block i hi⟩ RangeE.May.none)
  have hgt := hb.size
  simp at hgt
  obtain ⟨fn, tmps, assign, body, hy, hR⟩ := HY.out [] ⟨k, 4, 0⟩ w1 HJ1.out (List.prefix_refl _) (by omega)
  unfold Pl.enc at hy
  have d0 := K1.out.cell 0
  have d1 := K1.out.cell 1
  have d2 := K1.out.cell 2
  clear hb ck cn cf
  gi_wp2
  refine hR.mono ?_
  rintro e V (⟨rfl, hJ', _⟩ | ⟨rfl, hJx', _⟩)
  · gi_wp2
    exact bodyPost_end (results_none rfl _ _ _) rfl ⟨⟨_, rfl⟩, .inl ⟨_, rfl, hJ'⟩⟩
  · gi_wp2
    exact bodyPost_end (results_none rfl _ _ _) rfl ⟨⟨_, rfl⟩, .inr ⟨_, trivial, hJx'⟩⟩
set_option maxRecDepth 100000 in
set_option maxHeartbeats 4000000 in
theorem of_parts (m : Nat) (hm : 1 ≤ m) (bk bn bf gf : Nat) (w : World) (hf : FD w gf 5 2) (ho : OfBox w bk bn bf gf 4 4) : OfStops m bk bn bf [] w := by
  intro L J Jx W hW hJ hJx hY h0
  have hB := Lib.hid (ho.below hW)
  have HFD := Lib.hid (hf.below hW)
  have HJ := Lib.hid hJ
  have HJ0 := Lib.hid h0
  have ck := hB.out.ck
  have cn := hB.out.cn
  have cf := hB.out.cf
  have hbf : bf < W.heap.size := World.block_lt_of_cell? W _ cf
  have hbk : bk < W.heap.size := World.block_lt_of_cell? W _ ck
  have hbn : bn < W.heap.size := World.block_lt_of_cell? W _ cn
  have hb1 := (Below.refl W.heap.size W).alloc (Nat.le_refl _) (.cells #[.int .i64 4, .int .i64 4, .int .i64 2] 54)
  have CF := Lib.hid (pFits_4_2 gf _ (HFD.out.below hb1))
  have K0 := Lib.hid (Blk.new W 54 #[.int .i64 4, .int .i64 4, .int .i64 2])
  clear hJ hY hJx h0 ho hf hW
  refine callsIn_of_wp Tryz.func288 rfl trivial ?_ rfl
  simp only [Tryz.ntmps288, List.size_toArray, List.length_cons, List.length_nil, Nat.reduceAdd, Nat.reduceSub, Array.replicate_succ, Array.replicate_zero, List.push_toArray, List.append_toArray, List.nil_append, List.cons_append]
  gi_wp2
  refine wpIn_loop_rounds 3 ?_
  rw [roundsIn_succ]
  gi_wp2
  refine ⟨trivial, ?_⟩
  refine (callsIn_wide.2 CF.out).mono ?_
  rintro e w1 ⟨rfl, hb, hs⟩
  have B1 := Lib.hid (below_then hb1 hb1.size hb)
  have k1 := bcell B1.out ck
  have n1 := bcell B1.out cn
  have f1 := bcell B1.out cf
  have hs1 := B1.out.size
  have hbf1 : bf < w1.heap.size := by omega
  have hb2 := (Below.refl w1.heap.size w1).alloc (Nat.le_refl _) (.cells #[.int .i64 4, .int .i64 4, .int .i64 3] 54)
  have CF2 := Lib.hid (pFits_4_3 gf _ ((HFD.out.below B1.out).below hb2))
  clear hb hs hb1
  gi_wp2
  refine ⟨fun _ h => (by cases h), ?_⟩
  gi_wp2
  rw [roundsIn_succ]
  gi_wp2
  refine ⟨trivial, ?_⟩
  refine (callsIn_wide.2 CF2.out).mono ?_
  rintro e w2 ⟨rfl, hb, hs⟩
  have B2 := Lib.hid (below_then B1.out B1.out.size (below_then hb2 hb2.size hb))
  have k2 := bcell B2.out ck
  have n2 := bcell B2.out cn
  have HJ2 := Lib.hid (HJ.out _ W w2 none HJ0.out ⟨B2.out.os, B2.out.tape, B2.out.output, B2.out.size, fun i hi _ => B2.out.block i hi⟩ RangeE.May.none)
  clear hb hs hb2
  gi_wp2
  refine ⟨fun _ h => (by cases h), ?_⟩
  gi_wp2
  rw [roundsIn_succ]
  gi_wp2
  exact bodyPost_ret (results_none rfl _ _ _) rfl ⟨⟨_, rfl⟩, .inl ⟨_, rfl, HJ2.out⟩⟩
set_option maxRecDepth 100000 in
set_option maxHeartbeats 4000000 in
theorem of_prime (m : Nat) (hm : 1 ≤ m) (bk bn bf gf : Nat) (w : World) (hf : FD w gf 5 2) (ho : OfBox w bk bn bf gf 5 4) : OfStops m bk bn bf [] w := by
  intro L J Jx W hW hJ hJx hY h0
  have hB := Lib.hid (ho.below hW)
  have HFD := Lib.hid (hf.below hW)
  have HJ := Lib.hid hJ
  have HJ0 := Lib.hid h0
  have ck := hB.out.ck
  have cn := hB.out.cn
  have cf := hB.out.cf
  have hbf : bf < W.heap.size := World.block_lt_of_cell? W _ cf
  have hbk : bk < W.heap.size := World.block_lt_of_cell? W _ ck
  have hbn : bn < W.heap.size := World.block_lt_of_cell? W _ cn
  have CR := Lib.hid (raderPad_4 W.drew)
  have HD := Lib.hid (show Below W.heap.size W W.drew from (Below.refl _ _).drew)
  have HD2 := Lib.hid (show Below W.heap.size W (W.alloc (.cells #[.int .i64 0, .int .i64 0, .int .i64 0] 54)).drew from ((Below.refl _ _).alloc (Nat.le_refl _) _).drew)
  have CR2 := Lib.hid (raderPad_4 (W.alloc (.cells #[.int .i64 0, .int .i64 0, .int .i64 0] 54)).drew)
  have KZ0 := Lib.hid (show Blk (W.alloc (.cells #[.int .i64 0, .int .i64 0, .int .i64 0] 54)).drew W.heap.size 54 #[.int .i64 0, .int .i64 0, .int .i64 0] from Blk.new W 54 #[.int .i64 0, .int .i64 0, .int .i64 0])
  clear hJ hY hJx h0 ho hf hW
  refine callsIn_of_wp Tryz.func288 rfl trivial ?_ rfl
  simp only [Tryz.ntmps288, List.size_toArray, List.length_cons, List.length_nil, Nat.reduceAdd, Nat.reduceSub, Array.replicate_succ, Array.replicate_zero, List.push_toArray, List.append_toArray, List.nil_append, List.cons_append]
  gi_wp2
  gi_cut [7] from 34 (fun p wx => ∃ g : Nat, p = .pointer (some ⟨g, 0, none⟩) ∧ Hid (W.heap.size ≤ g ∧ Blk wx g 54 #[.int .i64 5, .int .i64 4, .int .i64 0] ∧ Below W.heap.size W wx))
  case first =>
    refine wpIn_wide.2 ?_
    have hne1 : ¬ W.heap.size = bk := by omega
    have hne2 : ¬ W.heap.size = bn := by omega
    have hne3 : ¬ bk = W.heap.size := by omega
    have hne4 : ¬ bn = W.heap.size := by omega
    have hS : W.cell? ⟨bk, 0, none⟩ = some (.int .i64 5) ∧ W.cell? ⟨bn, 0, none⟩ = some (.int .i64 4) := ⟨ck, cn⟩
    go_region_held3 (fun w' => w'.cell? ⟨bk, 0, none⟩ = some (.int .i64 5) ∧ w'.cell? ⟨bn, 0, none⟩ = some (.int .i64 4)) (first | exact hS | go_keep)
      (first
      | (go_at_call 204; refine CR.out.mono ?_; rintro e w1 ⟨rfl, hb⟩; (have HB := Lib.hid (below_then HD.out HD.out.size hb)); have hS : w1.cell? ⟨bk, 0, none⟩ = some (.int .i64 5) ∧ w1.cell? ⟨bn, 0, none⟩ = some (.int .i64 4) := ⟨bcell HB.out ck, bcell HB.out cn⟩; have hpast := CR; clear hpast; clear hb)
      | (go_at_call 204; refine CR2.out.mono ?_; rintro e w1 ⟨rfl, hb⟩; (have HB := Lib.hid (below_then HD2.out HD2.out.size hb)); have hS : w1.cell? ⟨bk, 0, none⟩ = some (.int .i64 5) ∧ w1.cell? ⟨bn, 0, none⟩ = some (.int .i64 4) := ⟨bcell HB.out ck, bcell HB.out cn⟩; (have KZ := Lib.hid (KZ0.out.below hb KZ0.out.lt)); have z0 := KZ.out.cell 0; have z1 := KZ.out.cell 1; have z2 := KZ.out.cell 2; have y0 := KZ.out.frozen 0; have y1 := KZ.out.frozen 1; have y2 := KZ.out.frozen 2; clear hb))
    · gi_wp2
      gi_meet
      exact ⟨w1.heap.size, rfl, Lib.hid ⟨HB.out.size, Blk.new w1 54 _, HB.out.alloc HB.out.size _⟩⟩
    · gi_wp2
      gi_meet
      exact ⟨W.heap.size, rfl, Lib.hid ⟨Nat.le_refl _, ((KZ.out.set_ 0 (.int .i64 5)).set_ 1 (.int .i64 4)).set_ 2 (.int .i64 0), ((HB.out.setCell (p := ⟨W.heap.size, 0, none⟩) (Nat.le_refl _) _).setCell (p := ⟨W.heap.size, 1, none⟩) (Nat.le_refl _) _).setCell (p := ⟨W.heap.size, 2, none⟩) (Nat.le_refl _) _⟩⟩
  case rest =>
    obtain ⟨g, rfl, HG⟩ := hcut
    have k1 := bcell HG.out.2.2 ck
    have n1 := bcell HG.out.2.2 cn
    have f1 := bcell HG.out.2.2 cf
    have d0 := HG.out.2.1.cell 0
    have d1 := HG.out.2.1.cell 1
    have d2 := HG.out.2.1.cell 2
    have CF := Lib.hid (pFits_5_0 gf wc (HFD.out.below HG.out.2.2))
    clear ck cn cf
    gi_wp2
    refine ⟨trivial, ?_⟩
    refine (callsIn_wide.2 CF.out).mono ?_
    rintro e w2 ⟨rfl, hb, hs⟩
    have B2 := Lib.hid (below_then HG.out.2.2 HG.out.2.2.size hb)
    have HJ2 := Lib.hid (HJ.out _ W w2 none HJ0.out ⟨B2.out.os, B2.out.tape, B2.out.output, B2.out.size, fun i hi _ => B2.out.block i hi⟩ RangeE.May.none)
    clear hb hs
    gi_wp2
    exact bodyPost_ret (results_none rfl _ _ _) rfl ⟨⟨_, rfl⟩, .inl ⟨_, rfl, HJ2.out⟩⟩
set_option maxRecDepth 100000 in
set_option maxHeartbeats 4000000 in
theorem of_any (m : Nat) (hm : 1 ≤ m) (bk bn bf gf : Nat) (w : World) (hf : FD w gf 5 2) (ho : OfBox w bk bn bf gf 6 4) : OfStops m bk bn bf [] w := by
  intro L J Jx W hW hJ hJx hY h0
  have hB := Lib.hid (ho.below hW)
  have HFD := Lib.hid (hf.below hW)
  have HJ := Lib.hid hJ
  have HJ0 := Lib.hid h0
  have ck := hB.out.ck
  have cn := hB.out.cn
  have cf := hB.out.cf
  have hbf : bf < W.heap.size := World.block_lt_of_cell? W _ cf
  have hbk : bk < W.heap.size := World.block_lt_of_cell? W _ ck
  have hbn : bn < W.heap.size := World.block_lt_of_cell? W _ cn
  have CR := Lib.hid (raderPad_4 W.drew)
  have HD := Lib.hid (show Below W.heap.size W W.drew from (Below.refl _ _).drew)
  have HD2 := Lib.hid (show Below W.heap.size W (W.alloc (.cells #[.int .i64 0, .int .i64 0, .int .i64 0] 54)).drew from ((Below.refl _ _).alloc (Nat.le_refl _) _).drew)
  have CR2 := Lib.hid (raderPad_4 (W.alloc (.cells #[.int .i64 0, .int .i64 0, .int .i64 0] 54)).drew)
  have KZ0 := Lib.hid (show Blk (W.alloc (.cells #[.int .i64 0, .int .i64 0, .int .i64 0] 54)).drew W.heap.size 54 #[.int .i64 0, .int .i64 0, .int .i64 0] from Blk.new W 54 #[.int .i64 0, .int .i64 0, .int .i64 0])
  clear hJ hY hJx h0 ho hf hW
  refine callsIn_of_wp Tryz.func288 rfl trivial ?_ rfl
  simp only [Tryz.ntmps288, List.size_toArray, List.length_cons, List.length_nil, Nat.reduceAdd, Nat.reduceSub, Array.replicate_succ, Array.replicate_zero, List.push_toArray, List.append_toArray, List.nil_append, List.cons_append]
  gi_wp2
  gi_cut [7] from 34 (fun p wx => ∃ g : Nat, p = .pointer (some ⟨g, 0, none⟩) ∧ Hid (W.heap.size ≤ g ∧ Blk wx g 54 #[.int .i64 6, .int .i64 4, .int .i64 0] ∧ Below W.heap.size W wx))
  case first =>
    refine wpIn_wide.2 ?_
    have hne1 : ¬ W.heap.size = bk := by omega
    have hne2 : ¬ W.heap.size = bn := by omega
    have hne3 : ¬ bk = W.heap.size := by omega
    have hne4 : ¬ bn = W.heap.size := by omega
    have hS : W.cell? ⟨bk, 0, none⟩ = some (.int .i64 6) ∧ W.cell? ⟨bn, 0, none⟩ = some (.int .i64 4) := ⟨ck, cn⟩
    go_region_held3 (fun w' => w'.cell? ⟨bk, 0, none⟩ = some (.int .i64 6) ∧ w'.cell? ⟨bn, 0, none⟩ = some (.int .i64 4)) (first | exact hS | go_keep)
      (first
      | (go_at_call 204; refine CR.out.mono ?_; rintro e w1 ⟨rfl, hb⟩; (have HB := Lib.hid (below_then HD.out HD.out.size hb)); have hS : w1.cell? ⟨bk, 0, none⟩ = some (.int .i64 6) ∧ w1.cell? ⟨bn, 0, none⟩ = some (.int .i64 4) := ⟨bcell HB.out ck, bcell HB.out cn⟩; have hpast := CR; clear hpast; clear hb)
      | (go_at_call 204; refine CR2.out.mono ?_; rintro e w1 ⟨rfl, hb⟩; (have HB := Lib.hid (below_then HD2.out HD2.out.size hb)); have hS : w1.cell? ⟨bk, 0, none⟩ = some (.int .i64 6) ∧ w1.cell? ⟨bn, 0, none⟩ = some (.int .i64 4) := ⟨bcell HB.out ck, bcell HB.out cn⟩; (have KZ := Lib.hid (KZ0.out.below hb KZ0.out.lt)); have z0 := KZ.out.cell 0; have z1 := KZ.out.cell 1; have z2 := KZ.out.cell 2; have y0 := KZ.out.frozen 0; have y1 := KZ.out.frozen 1; have y2 := KZ.out.frozen 2; clear hb))
    · gi_wp2
      gi_meet
      exact ⟨w1.heap.size, rfl, Lib.hid ⟨HB.out.size, Blk.new w1 54 _, HB.out.alloc HB.out.size _⟩⟩
    · gi_wp2
      gi_meet
      exact ⟨W.heap.size, rfl, Lib.hid ⟨Nat.le_refl _, ((KZ.out.set_ 0 (.int .i64 6)).set_ 1 (.int .i64 4)).set_ 2 (.int .i64 0), ((HB.out.setCell (p := ⟨W.heap.size, 0, none⟩) (Nat.le_refl _) _).setCell (p := ⟨W.heap.size, 1, none⟩) (Nat.le_refl _) _).setCell (p := ⟨W.heap.size, 2, none⟩) (Nat.le_refl _) _⟩⟩
  case rest =>
    obtain ⟨g, rfl, HG⟩ := hcut
    have k1 := bcell HG.out.2.2 ck
    have n1 := bcell HG.out.2.2 cn
    have f1 := bcell HG.out.2.2 cf
    have d0 := HG.out.2.1.cell 0
    have d1 := HG.out.2.1.cell 1
    have d2 := HG.out.2.1.cell 2
    have f2 := HG.out.2.1.frozen 2
    have HK2 := Lib.hid (HG.out.2.1.set_ 2 (.int .i64 8))
    have HB2 := Lib.hid (HG.out.2.2.setCell (p := ⟨g, 2, none⟩) HG.out.1 (.int .i64 8))
    have hgk : ¬ g = bk := by have := HG.out.1; omega
    have hgn : ¬ g = bn := by have := HG.out.1; omega
    have hgf : ¬ g = bf := by have := HG.out.1; omega
    have hgk' : ¬ bk = g := by have := HG.out.1; omega
    have hgn' : ¬ bn = g := by have := HG.out.1; omega
    have hgf' : ¬ bf = g := by have := HG.out.1; omega
    have CF := Lib.hid (pFits_6_8 gf _ (HFD.out.below HB2.out))
    clear ck cn cf
    gi_wp2
    refine ⟨trivial, ?_⟩
    refine (callsIn_wide.2 (chirpPad_4 wc)).mono ?_
    rintro e w2 ⟨rfl, rfl⟩
    have q0 := HK2.out.cell 0
    have q1 := HK2.out.cell 1
    have q2 := HK2.out.cell 2
    gi_wp2
    refine ⟨trivial, ?_⟩
    refine (callsIn_wide.2 CF.out).mono ?_
    rintro e w2 ⟨rfl, hb, hs⟩
    have B2 := Lib.hid (below_then HB2.out HB2.out.size hb)
    have HJ2 := Lib.hid (HJ.out _ W w2 none HJ0.out ⟨B2.out.os, B2.out.tape, B2.out.output, B2.out.size, fun i hi _ => B2.out.block i hi⟩ RangeE.May.none)
    clear hb hs
    gi_wp2
    exact bodyPost_ret (results_none rfl _ _ _) rfl ⟨⟨_, rfl⟩, .inl ⟨_, rfl, HJ2.out⟩⟩
end Go.Proofs.YtpkpadepccneeaaGreatDoor

/- The walk of plan.All's iterator, at length 4 in the field of 5: a loop over iterators within an iterator. No condition. -/
namespace Go.Proofs.YtpkpadepccneeaaGreatDoor
set_option linter.unusedVariables false
set_option linter.unusedSimpArgs false
open Go Go.RowKit Go.Shelf
attribute [local go_sem] Oper.semAt_some
theorem roundIn_any {m n L l : Nat} {f : FuncId} {tmps : Array Value} {ac bd : Code} {w : World} {R : Ending → World → Prop} (h : RoundIn Fence.wide m Tryz.prog l f tmps ac bd w R) :
    RoundIn (Fence.wide.inRound L) n Tryz.prog l f tmps ac bd w R := ⟨h.1, fun c cs _ => h.2 c cs (room_wide _)⟩
/-- A mark among a frame's deferred calls. -/
def coll (D : Nat) : Deferred := { target := .collected D, args := #[] }
theorem leaves_marks {F : Fence} {n : Nat} {fn : Func} {tmps : Array Value} {R : Ending → World → Prop} (Pr : World → Prop) (B : Nat)
    (hP : ∀ (V : World) (D : Nat) (o o' : Obj), Pr V → B ≤ D → V.heap[D]? = some o → o.isCells = false → Pr (V.putObj D o'))
    (hR : ∀ V, Pr V → LeavesIn F n Tryz.prog fn tmps R [] .returning V) : ∀ (ds : List Nat) (V : World), ds.Nodup → (∀ D ∈ ds, B ≤ D ∧ V.heap[D]? = some (.deferred (some []))) → Pr V →
    LeavesInM F n Tryz.prog fn tmps R (ds.map coll) .returning V
  | [], V, _, _, h => hR V h
  | D :: ds, V, hn, hm, h => by
    obtain ⟨h1, h2⟩ := List.nodup_cons.1 hn
    obtain ⟨hB, hD⟩ := hm D (List.mem_cons_self ..)
    refine ⟨by simp, .inl ⟨D, _, rfl, run_takeDeferred hD, leaves_marks Pr B hP hR ds _ h2 (fun E hE => ?_) (hP V D _ _ h hB hD rfl)⟩⟩
    obtain ⟨a, b⟩ := hm E (List.mem_cons_of_mem _ hE)
    exact ⟨a, (World.putObj_heap_other (by rintro rfl; exact h1 hE)).trans b⟩
set_option maxHeartbeats 1000000 in
theorem All_ok (gf : Nat) (w : World) : Calls Tryz.prog 189 #[.pointer (some ⟨gf, 0, none⟩), .int .i64 4] w fun e w' =>
    e = .returned (.func (.func 240) #[] #[.pointer (some ⟨w.heap.size, 0, none⟩), .pointer (some ⟨w.heap.size + 1, 0, none⟩)]) ∧ w' = (w.alloc (.cells #[.pointer (some ⟨gf, 0, none⟩)] 35)).alloc (.cells #[.int .i64 4] 3) := by
  refine calls_of_wp Tryz.func189 rfl ?_
  simp only [Tryz.ntmps189, List.size_toArray, List.length_cons, List.length_nil, Nat.reduceAdd, Nat.reduceSub, Array.replicate_succ, Array.replicate_zero, List.push_toArray, List.append_toArray, List.nil_append, List.cons_append]
  go_wp2
  go_ret
  exact ⟨rfl, rfl⟩
set_option maxHeartbeats 1000000 in
theorem of241_ok (gf : Nat) (k : Int) (w : World) : Calls Tryz.prog 241 #[.pointer (some ⟨gf, 0, none⟩), .int .i64 4, .int .i64 k] w fun e w' =>
    e = .returned (.func (.func 288) #[] #[.pointer (some ⟨w.heap.size + 1 + 1, 0, none⟩), .pointer (some ⟨w.heap.size + 1, 0, none⟩), .pointer (some ⟨w.heap.size, 0, none⟩)]) ∧
      w' = ((w.alloc (.cells #[.pointer (some ⟨gf, 0, none⟩)] 35)).alloc (.cells #[.int .i64 4] 3)).alloc (.cells #[.int .i64 k] 42) := by
  refine calls_of_wp Tryz.func241 rfl ?_
  simp only [Tryz.ntmps241, List.size_toArray, List.length_cons, List.length_nil, Nat.reduceAdd, Nat.reduceSub, Array.replicate_succ, Array.replicate_zero, List.push_toArray, List.append_toArray, List.nil_append, List.cons_append]
  go_wp2
  go_ret
  exact ⟨rfl, rfl⟩
/-- The ways of length 4, by kind; those up to a kind. -/
def pls (k : Nat) : List Pl := if k < 4 then [⟨k, 4, 0⟩] else []
def plsTo (k : Nat) : List Pl := (List.range k).flatMap pls
theorem plsTo_succ (k : Nat) : plsTo (k + 1) = plsTo k ++ pls k := by simp [plsTo, List.range_succ]
/-- Each kind's iterator, at the field of 5. -/
theorem of_all (m : Nat) (hm : 1 ≤ m) (k : Nat) (hk : k ≤ 6) (bk bn bf gf : Nat) (w : World) (hf : FD w gf 5 2) (ho : OfBox w bk bn bf gf k 4) : OfStops m bk bn bf (pls k) w := by
  rcases (by omega : k = 0 ∨ k = 1 ∨ k = 2 ∨ k = 3 ∨ k = 4 ∨ k = 5 ∨ k = 6) with rfl | rfl | rfl | rfl | rfl | rfl | rfl
  · exact of_plain 0 (by decide) m hm bk bn bf gf w hf ho (fun W h => pFits_0_0 gf W h)
  · exact of_plain 1 (by decide) m hm bk bn bf gf w hf ho (fun W h => pFits_1_0 gf W h)
  · exact of_plain 2 (by decide) m hm bk bn bf gf w hf ho (fun W h => pFits_2_0 gf W h)
  · exact of_plain 3 (by decide) m hm bk bn bf gf w hf ho (fun W h => pFits_3_0 gf W h)
  · exact of_parts m hm bk bn bf gf w hf ho
  · exact of_prime m hm bk bn bf gf w hf ho
  · exact of_any m hm bk bn bf gf w hf ho
/-- What a round of plan.All keeps: the field; the loops' records; the iterator's boxes. -/
def KA (n0 bf bn G : Nat) (X Y : World) : Prop := Below n0 X Y ∧ KeepsFrom G X Y ∧ ∀ b, b = bf ∨ b = bn ∨ b = G → ∀ o, X.heap[b]? = some o → o.isCells = true → Y.heap[b]? = some o
/-- What the iterator stands on. -/
structure ABox (n0 : Nat) (v0 V : World) (bf bn gf G l : Nat) : Prop where
  bel : Below n0 v0 V
  kf : Blk V bf 35 #[.pointer (some ⟨gf, 0, none⟩)]
  kn : Blk V bn 3 #[.int .i64 4]
  ky : Blk V G 310 #[.func (.yield l) #[] #[]]
theorem ABox.turned {n0 : Nat} {v0 V V' : World} {bf bn gf G l : Nat} (h : ABox n0 v0 V bf bn gf G l) (h0 : n0 ≤ v0.heap.size) {row : Option Nat} (hg : V.grownBy V' row)
    (hr : ∀ r, row = some r → v0.heap.size ≤ r ∧ ∃ o : Obj, V.heap[r]? = some o ∧ o.isCells = false) : ABox n0 v0 V' bf bn gf G l := by
  have hk : ∀ {b : Nat} {t : TypeId} {cs : Array Value}, Blk V b t cs → Blk V' b t cs := fun {b t cs} hb => (hg.block b hb.lt (fun e => by
    obtain ⟨_, o, ho, hc⟩ := hr b e.symm
    rw [show V.heap[b]? = _ from hb] at ho
    cases ho; cases hc)).trans hb
  exact ⟨h.bel.trans ⟨hg.os, hg.tape, hg.output, hg.size, fun i hi => hg.block i (Nat.lt_of_lt_of_le hi (Nat.le_trans h0 h.bel.size)) (fun e => by have := (hr i e.symm).1; omega)⟩, hk h.kf, hk h.kn, hk h.ky⟩
theorem ABox.alloc {n0 : Nat} {v0 V : World} {bf bn gf G l : Nat} (h : ABox n0 v0 V bf bn gf G l) (h0 : n0 ≤ v0.heap.size) (o : Obj) : ABox n0 v0 (V.alloc o) bf bn gf G l :=
  h.turned h0 (World.grownBy_alloc V o none) (fun r e => by cases e)
theorem ABox.round {n0 : Nat} {v0 V V' : World} {bf bn gf G l : Nat} (h : ABox n0 v0 V bf bn gf G l) (hk : KA n0 bf bn G V V') : ABox n0 v0 V' bf bn gf G l :=
  ⟨h.bel.trans hk.1, hk.2.2 bf (.inl rfl) _ h.kf rfl, hk.2.2 bn (.inr (.inl rfl)) _ h.kn rfl, hk.2.2 G (.inr (.inr rfl)) _ h.ky rfl⟩
/-- The marks of the loops that have run. -/
def Marks (G : Nat) (ds : List Nat) (V : World) : Prop := ds.Nodup ∧ ∀ D ∈ ds, G ≤ D ∧ V.heap[D]? = some (.deferred (some []))
theorem Marks.keeps {G : Nat} {ds : List Nat} {V V' : World} (h : Marks G ds V) (hk : KeepsFrom G V V') : Marks G ds V' := ⟨h.1, fun D hD => ⟨(h.2 D hD).1, hk.same D _ (h.2 D hD).1 (h.2 D hD).2 rfl⟩⟩
theorem Marks.below {G : Nat} {ds : List Nat} {V V' : World} (h : Marks G ds V) (hk : Below V.heap.size V V') : Marks G ds V' :=
  ⟨h.1, fun D hD => ⟨(h.2 D hD).1, (hk.block D (Array.getElem?_eq_some_iff.1 (h.2 D hD).2).1).trans (h.2 D hD).2⟩⟩
theorem Marks.grown {G B : Nat} {ds : List Nat} {V V' : World} (h : Marks G ds V) (hB : ∀ D ∈ ds, D < B) {row : Option Nat} (hg : V.grownBy V' row) (hr : ∀ r, row = some r → B ≤ r) : Marks G ds V' :=
  ⟨h.1, fun D hD => ⟨(h.2 D hD).1, (hg.block D (Array.getElem?_eq_some_iff.1 (h.2 D hD).2).1 (fun e => by have h1 := hr D e.symm; have h2 := hB D hD; omega)).trans (h.2 D hD).2⟩⟩
theorem Marks.lt {G : Nat} {ds : List Nat} {V : World} (h : Marks G ds V) : ∀ D ∈ ds, D < V.heap.size := fun D hD => (Array.getElem?_eq_some_iff.1 (h.2 D hD).2).1
theorem Marks.cons {G D : Nat} {ds : List Nat} {V : World} (h : Marks G ds V) (hD : G ≤ D) (hm : V.heap[D]? = some (.deferred (some []))) (hn : ∀ E ∈ ds, E < D) : Marks G (D :: ds) V :=
  ⟨List.nodup_cons.2 ⟨fun hin => by have := hn D hin; omega, h.1⟩, fun E hE => by
    rcases List.mem_cons.1 hE with rfl | hE
    · exact ⟨hD, hm⟩
    · exact h.2 E hE⟩
def toSeven : Option Value → Nat
  | some (.int _ k) => (7 - k).toNat
  | _ => 0
set_option maxRecDepth 100000 in
set_option maxHeartbeats 4000000 in
theorem All1_stops (m : Nat) (hm : 6 ≤ m) (n0 : Nat) (v0 w : World) (gf bf bn : Nat) (hv : n0 = v0.heap.size) (hf : FD v0 gf 5 2) (hb : Below n0 v0 w) (kf : Blk w bf 35 #[.pointer (some ⟨gf, 0, none⟩)]) (kn : Blk w bn 3 #[.int .i64 4]) :
    RangeE.Stops False Fence.wide m Tryz.prog 240 #[.pointer (some ⟨bf, 0, none⟩), .pointer (some ⟨bn, 0, none⟩)] Pl.enc (KA n0 bf bn) (fun xs => xs = plsTo 7) (fun _ => True) (fun pre x => pre ++ [x] <+: plsTo 7) w := by
  intro l J Jx W hW hJ hJx hY h0
  have hG : Below n0 v0 W := below_then hb (by rw [hv]; exact hb.size) hW
  have HA := Lib.hid (show ABox n0 v0 (W.alloc (.cells #[.func (.yield l) #[] #[]] 310)) bf bn gf W.heap.size l from
    ⟨hG.alloc (by rw [hv]; rw [hv] at hG; exact hG.size) _, (kf.below hW kf.lt).alloc _, (kn.below hW kn.lt).alloc _, Blk.new W 310 _⟩)
  have HFD := Lib.hid (fun (V : World) (h : Below n0 v0 V) => hf.below (hv ▸ h))
  have HJ := Lib.hid hJ
  have HJx := Lib.hid hJx
  have HJ0 := Lib.hid (hJ _ _ _ none h0 (World.grownBy_alloc W (.cells #[.func (.yield l) #[] #[]] 310) none) RangeE.May.none)
  have HY := Lib.hid hY
  have h1m : 1 ≤ m := by omega
  have hv0 : n0 ≤ W.heap.size := by rw [hv]; rw [hv] at hG; exact hG.size
  have hbfw : bf < W.heap.size := Nat.lt_of_lt_of_le kf.lt hW.size
  have hbnw : bn < W.heap.size := Nat.lt_of_lt_of_le kn.lt hW.size
  clear hJ hY hJx h0 hf hb kf kn hW hG
  refine callsIn_of_wp_marks Tryz.func240 rfl trivial ?_ rfl
  simp only [Tryz.ntmps240, List.size_toArray, List.length_cons, List.length_nil, Nat.reduceAdd, Nat.reduceSub, Array.replicate_succ, Array.replicate_zero, List.push_toArray, List.append_toArray, List.nil_append, List.cons_append]
  have cf := HA.out.kf.cell 0
  have cn := HA.out.kn.cell 0
  have CP := Lib.hid (show Rd 188 #[.pointer (some ⟨gf, 0, none⟩), .int .i64 4] (W.alloc (.cells #[.func (.yield l) #[] #[]] 310)) (.int .i64 0) from pCheck_ok gf 5 2 4 _ (HFD.out _ HA.out.bel) (by decide) (by decide) (by decide)).now
  gi_wp2
  refine ⟨trivial, ?_⟩
  refine (callsIn_wide.2 CP.out).mono ?_
  rintro e w1 ⟨rfl, q, rfl⟩
  have HD := Lib.hid (below_drewN (Below.refl (W.alloc (.cells #[.func (.yield l) #[] #[]] 310)).heap.size (W.alloc (.cells #[.func (.yield l) #[] #[]] 310))) q)
  have HDg := Lib.hid (show (W.alloc (.cells #[.func (.yield l) #[] #[]] 310)).grownBy ((W.alloc (.cells #[.func (.yield l) #[] #[]] 310)).drewN q) none from ⟨HD.out.os, HD.out.tape, HD.out.output, HD.out.size, fun i hi _ => HD.out.block i hi⟩)
  have HA1 := Lib.hid (HA.out.turned (by rw [hv]; exact Nat.le_refl _) HDg.out (fun r e => by cases e))
  have HJ1 := Lib.hid (HJ.out _ _ _ none HJ0.out HDg.out RangeE.May.none)
  have hs1 : W.heap.size < ((W.alloc (.cells #[.func (.yield l) #[] #[]] 310)).drewN q).heap.size := by
    have := HD.out.size
    rw [World.size_alloc] at this
    omega
  clear CP HA HJ0 HD HDg cf cn
  generalize (W.alloc (.cells #[.func (.yield l) #[] #[]] 310)).drewN q = V0 at *
  gi_wp2
  refine wpIn_loop (fun a V => ∃ (k : Nat) (ds : List Nat) (t5 t10 t11 t12 t13 t14 t15 t16 t17 t18 t19 t20 t21 t22 : Value), k ≤ 7 ∧
      a = { tmps := #[.func (.yield l) #[] #[], .pointer (some ⟨bf, 0, none⟩), .pointer (some ⟨bn, 0, none⟩), .pointer (some ⟨W.heap.size, 0, none⟩), .int .i64 k, t5, .pointer (some ⟨gf, 0, none⟩), .int .i64 4, .int .i64 0, .bool false, t10, t11, t12, t13, t14, t15, t16, t17, t18, t19, t20, t21, t22], defers := ds.map coll } ∧
      W.heap.size < V.heap.size ∧ ABox n0 v0 V bf bn gf W.heap.size l ∧ Marks W.heap.size ds V ∧ J (plsTo k) V)
    (fun a _ => toSeven a.tmps[4]?)
    ⟨0, [], undef, undef, undef, undef, undef, undef, undef, undef, undef, undef, undef, undef, undef, undef, by omega, rfl, hs1, HA1.out, ⟨List.nodup_nil, fun D h => by cases h⟩, HJ1.out⟩ ?_
  clear HA1 HJ1 hs1
  clear V0
  rintro a V ⟨k, ds, t5, t10, t11, t12, t13, t14, t15, t16, t17, t18, t19, t20, t21, t22, hk, rfl, hs, HA, HM, HJk⟩
  replace HA := Lib.hid HA
  replace HM := Lib.hid HM
  replace HJk := Lib.hid HJk
  by_cases hk7 : k = 7
  · subst hk7
    have e1 : decide ((7 : Int) ≤ 6) = false := rfl
    gi_wp2
    refine leaves_marks (J (plsTo 7)) W.heap.size (fun U D o o' h hB hD ho => HJ.out _ U _ (some D) h (grownBy_putObj' U D o') (fun r e => by cases e; exact .inr ⟨hB, o, hD, ho⟩)) (fun U hU => ?_) ds V HM.out.1 HM.out.2 HJk.out
    exact ⟨_, results_none rfl _ _ _, ⟨_, rfl⟩, .inl ⟨_, rfl, hU⟩⟩
  · have hk6 : k ≤ 6 := by omega
    have e1 : decide ((k : Int) ≤ 6) = true := decide_eq_true (by omega)
    have e1' : decide (k ≤ 6) = true := decide_eq_true hk6
    have cf := HA.out.kf.cell 0
    have cn := HA.out.kn.cell 0
    have CO := Lib.hid (of241_ok gf k V)
    gi_wp2
    refine ⟨trivial, ?_⟩
    refine (callsIn_wide.2 CO.out).mono ?_
    rintro e w2 ⟨rfl, rfl⟩
    have hb3 : Below V.heap.size V (((V.alloc (.cells #[.pointer (some ⟨gf, 0, none⟩)] 35)).alloc (.cells #[.int .i64 4] 3)).alloc (.cells #[.int .i64 k] 42)) :=
      (((Below.refl _ V).alloc (Nat.le_refl _) _).alloc (by simp) _).alloc (by simp; omega) _
    have HA3 := Lib.hid (((HA.out.alloc (by rw [hv]; exact Nat.le_refl _) (.cells #[.pointer (some ⟨gf, 0, none⟩)] 35)).alloc (by rw [hv]; exact Nat.le_refl _) (.cells #[.int .i64 4] 3)).alloc (by rw [hv]; exact Nat.le_refl _) (.cells #[.int .i64 k] 42))
    have HM3 := Lib.hid (HM.out.below hb3)
    have HJ3 := Lib.hid (HJ.out _ _ _ none HJk.out (⟨hb3.os, hb3.tape, hb3.output, hb3.size, fun i hi _ => hb3.block i hi⟩ : V.grownBy _ none) RangeE.May.none)
    have B1 := ((Blk.new V 35 #[.pointer (some ⟨gf, 0, none⟩)]).alloc (.cells #[.int .i64 4] 3)).alloc (.cells #[.int .i64 k] 42)
    have B2 := (Blk.new (V.alloc (.cells #[.pointer (some ⟨gf, 0, none⟩)] 35)) 3 #[.int .i64 4]).alloc (.cells #[.int .i64 k] 42)
    have B3 := Blk.new ((V.alloc (.cells #[.pointer (some ⟨gf, 0, none⟩)] 35)).alloc (.cells #[.int .i64 4] 3)) 42 #[.int .i64 k]
    simp only [World.size_alloc] at B2 B3
    have HO := Lib.hid (show OfBox (((V.alloc (.cells #[.pointer (some ⟨gf, 0, none⟩)] 35)).alloc (.cells #[.int .i64 4] 3)).alloc (.cells #[.int .i64 k] 42)) (V.heap.size + 1 + 1) (V.heap.size + 1) V.heap.size gf k 4 from ⟨B3.cell 0, B2.cell 0, B1.cell 0⟩)
    have hs3 : (((V.alloc (.cells #[.pointer (some ⟨gf, 0, none⟩)] 35)).alloc (.cells #[.int .i64 4] 3)).alloc (.cells #[.int .i64 k] 42)).heap.size = V.heap.size + 3 := by simp
    have hltD := Lib.hid HM.out.lt
    clear B1 B2 B3 hb3 cf cn CO
    gi_wp2
    generalize ((V.alloc (.cells #[.pointer (some ⟨gf, 0, none⟩)] 35)).alloc (.cells #[.int .i64 4] 3)).alloc (.cells #[.int .i64 k] 42) = V3 at *
    generalize V.heap.size = s at *
    refine RangeE.range_law False (n := m) (gf := 288) (lb := #[.pointer (some ⟨s + 1 + 1, 0, none⟩), .pointer (some ⟨s + 1, 0, none⟩), .pointer (some ⟨s, 0, none⟩)]) rfl (by omega) rfl trivial (enters_of Tryz.func288 (by kernel_rfl) rfl)
      (of_all (m - 1) (by omega) k hk6 (s + 1 + 1) (s + 1) s gf V3 (HFD.out _ HA3.out.bel) HO.out) (fun _ _ => trivial)
      (fun U o o' h => trivial) (Below.refl _ _) (fun _ => rfl)
      (fun pre U => W.heap.size < U.heap.size ∧ ABox n0 v0 U bf bn gf W.heap.size l ∧ Marks W.heap.size ds U ∧ J (plsTo k ++ pre) U)
      (fun c pre U => c = .ret ∧ Marks W.heap.size ds U ∧ Jx (plsTo k ++ pre) U)
      ?mine ?minex ⟨by omega, HA3.out, HM3.out, by rw [List.append_nil]; exact HJ3.out⟩
      (fun x a' U => ∃ g, V3.heap.size + 2 ≤ g ∧ Blk U g 54 #[.int .i64 x.k, .int .i64 x.n, .int .i64 x.a] ∧ a' =
        { tmps := #[.func (.yield l) #[] #[], .pointer (some ⟨bf, 0, none⟩), .pointer (some ⟨bn, 0, none⟩), .pointer (some ⟨W.heap.size, 0, none⟩), .int .i64 k, .pointer (some ⟨g, 0, none⟩), .pointer (some ⟨gf, 0, none⟩), .int .i64 4, .int .i64 0, .bool false, .int .i64 k, .bool true, t12, t13,
          .pointer (some ⟨gf, 0, none⟩), .int .i64 4, .int .i64 k, .func (.func 288) #[] #[.pointer (some ⟨s + 1 + 1, 0, none⟩), .pointer (some ⟨s + 1, 0, none⟩), .pointer (some ⟨s, 0, none⟩)], .agg #[.int .i64 x.k, .int .i64 x.n, .int .i64 x.a], t19, t20, t21, t22], defers := [] })
      (fun x a' U o o' h ho ⟨g, h1, h2, h3⟩ => ⟨g, h1, h2.record h ho, h3⟩)
      ?assign ?body ?done ?stop
    case mine =>
      rintro pre U U' row ⟨h1, h2, h3, h4⟩ hg hr
      refine ⟨Nat.lt_of_lt_of_le h1 hg.size, h2.turned (by rw [hv]; exact Nat.le_refl _) hg (fun r e => ?_), h3.grown (B := s) hltD.out hg (fun r e => ?_), HJ.out _ _ _ _ h4 hg (fun r e => ?_)⟩
      · rcases hr r e with ⟨h, _⟩ | ⟨h, h'⟩
        · exact h.elim
        · exact ⟨by have := HA.out.bel.size; omega, h'⟩
      · rcases hr r e with ⟨h, _⟩ | ⟨h, h'⟩
        · exact h.elim
        · omega
      · rcases hr r e with ⟨h, _⟩ | ⟨h, h'⟩
        · exact h.elim
        · exact .inr ⟨by omega, h'⟩
    case minex =>
      rintro c pre U U' row ⟨h1, h2, h3⟩ hg hr
      refine ⟨h1, h2.grown (B := s) hltD.out hg (fun r e => ?_), HJx.out _ _ _ _ h3 hg (fun r e => ?_)⟩
      · rcases hr r e with ⟨h, _⟩ | ⟨h, h'⟩
        · exact h.elim
        · omega
      · rcases hr r e with ⟨h, _⟩ | ⟨h, h'⟩
        · exact h.elim
        · exact .inr ⟨by omega, h'⟩
    case assign =>
      rintro L pre ⟨xk, xn, xa⟩ U K hi ho hK
      have hU : V3.heap.size + 1 < U.heap.size := by
        obtain ⟨o, ho⟩ := ho
        exact (Array.getElem?_eq_some_iff.1 ho).1
      have HK := Lib.hid hK
      have HI := Lib.hid hi
      clear hK hi ho
      unfold Pl.enc
      gi_wp2
      obtain ⟨h1, h2, h3, h4⟩ := HI.out
      refine HK.out _ _ ((KeepsOthers.alloc _ _).from _) trivial ⟨by simp; omega, h2.alloc (by rw [hv]; exact Nat.le_refl _) _, h3.below ((Below.refl _ U).alloc (Nat.le_refl _) _), HJ.out _ _ _ none h4 (World.grownBy_alloc U _ none) RangeE.May.none⟩ ⟨U.heap.size, by omega, Blk.new U 54 _, rfl⟩
    case body =>
      rintro L pre ⟨xk, xn, xa⟩ a' U ho ⟨h1, h2, h3, h4⟩ ⟨g, hg, hGB, rfl⟩ hlen hU
      have hl4 : (plsTo k ++ pre) ++ [⟨xk, xn, xa⟩] <+: plsTo 7 := by
        have h : ∀ j, j ≤ 6 → plsTo j ++ pls j <+: plsTo 7 := by decide
        refine List.IsPrefix.trans ?_ (h k hk6)
        rw [List.append_assoc]
        exact List.prefix_append_right_inj _ |>.2 hlen
      obtain ⟨fn, tmps, assign, body, hy, hR⟩ := HY.out (plsTo k ++ pre) ⟨xk, xn, xa⟩ U h4 hl4 h1
      replace hR := Lib.hid hR
      have cG := h2.ky.cell 0
      have g0 := hGB.cell 0
      have g1 := hGB.cell 1
      have g2 := hGB.cell 2
      unfold Pl.enc at hy
      replace h2 := Lib.hid h2
      replace h3 := Lib.hid h3
      replace h4 := Lib.hid h4
      replace hGB := Lib.hid hGB
      replace ho := Lib.hid ho
      have hm1 : 1 ≤ m - 1 - 1 := by omega
      gi_wp2
      refine (roundIn_any hR.out).mono ?_
      have kup : ∀ {A C : World}, KeepsFrom W.heap.size A C → KeepsFrom V3.heap.size A C := fun h => ⟨h.size, fun k o hB hk ho => h.same k o (by omega) hk ho⟩
      rintro e V' (⟨rfl, hJ', hk'⟩ | ⟨rfl, hJx', hk'⟩)
      · gi_wp2
        exact ⟨kup hk'.2.1, trivial, Nat.lt_of_lt_of_le h1 hk'.2.1.size, h2.out.round hk', h3.out.keeps hk'.2.1, by rw [← List.append_assoc]; exact hJ'⟩
      · gi_wp2
        exact ⟨kup hk', rfl, h3.out.keeps hk', by rw [← List.append_assoc]; exact hJx'⟩
    case done =>
      rintro D xs U hD rfl ⟨h1, h2, h3, h4⟩ hm
      replace h2 := Lib.hid h2
      replace h3 := Lib.hid h3
      replace h4 := Lib.hid h4
      replace hm := Lib.hid hm
      gi_wp2
      refine ⟨⟨k + 1, D :: ds, _, _, _, _, _, _, _, _, _, _, _, _, _, _, by omega, rfl, h1, h2.out, h3.out.cons (by omega) hm.out (fun E hE => by have := hltD.out E hE; omega), by rw [plsTo_succ]; exact h4.out⟩, ?_⟩
      show (7 - ((k + 1 : Nat) : Int)).toNat < (7 - (k : Int)).toNat
      omega
    case stop =>
      rintro D c pre U hD _ ⟨rfl, h3, h4⟩ hm
      replace h3 := Lib.hid h3
      replace h4 := Lib.hid h4
      replace hm := Lib.hid hm
      gi_wp2
      refine leaves_marks (Jx (plsTo k ++ pre)) W.heap.size (fun U D o o' h hB hD ho => HJx.out _ U _ (some D) h (grownBy_putObj' U D o') (fun r e => by cases e; exact .inr ⟨hB, o, hD, ho⟩)) (fun U hU => ?_) (D :: ds) U
        (h3.out.cons (by omega) hm.out (fun E hE => by have := hltD.out E hE; omega)).1 (h3.out.cons (by omega) hm.out (fun E hE => by have := hltD.out E hE; omega)).2 h4.out
      exact ⟨_, results_none rfl _ _ _, ⟨_, rfl⟩, .inr ⟨_, trivial, hU⟩⟩
end Go.Proofs.YtpkpadepccneeaaGreatDoor

/- The walk of plan's costs at length 4: the four plain ways. No condition. -/
namespace Go.Proofs.YtpkpadepccneeaaGreatDoor
set_option linter.unusedVariables false
set_option linter.unusedSimpArgs false
open Go Go.RowKit Go.Shelf
attribute [local go_sem] Oper.semAt_some
theorem len_rd4 (w : World) : Rd 152 #[.int .u64 4] w (.int .i64 3) := .of_same fun q => (Tryz.bits_Len 4 (w.drewN q) (by decide) (by decide)).mono fun e w' ⟨h, h'⟩ => ⟨h.trans (by rw [show Lib.bitLen (4 : Int).toNat = 3 by decide]; rfl), h'.symm⟩
theorem halves_4 (w : World) : Rd 289 #[.int .i64 4] w (.int .i64 28) := by
  refine Rd.of_drawn fun q => ?_
  have C := len_rd4 w
  go_enter Tryz.func289, Tryz.ntmps289
  go_wp2_with fail
  with_reducible refine (Rd.go (C) _).mono ?_
  rintro e_ w_ ⟨rfl, k1, rfl⟩
  go_wp2_with fail
  go_ret
  exact ⟨rfl, drawn_le (by omega)⟩
/-- What the plain ways cost at length 4. -/
def cost4 (k : Nat) : Int := if k = 0 then 16 else if k = 1 then 28 else if k = 2 then 24 else 36
theorem reckon_0 (mv : Value) (w : World) : Calls Tryz.prog 242 #[mv, .agg #[.int .i64 0, .int .i64 4, .int .i64 0]] w fun e w' => e = .returned (.int .i64 16) ∧ Below w.heap.size w w' := by
  have HB := Lib.hid (box54 w 0 0)
  have K0 := Lib.hid (Blk.new w 54 #[.int .i64 0, .int .i64 4, .int .i64 0])
  have d0 := K0.out.cell 0
  have d1 := K0.out.cell 1
  go_enter Tryz.func242, Tryz.ntmps242
  go_wp2_with fail
  go_ret
  exact ⟨rfl, HB.out⟩
theorem reckon_1 (mv : Value) (w : World) : Calls Tryz.prog 242 #[mv, .agg #[.int .i64 1, .int .i64 4, .int .i64 0]] w fun e w' => e = .returned (.int .i64 28) ∧ Below w.heap.size w w' := by
  have HB := Lib.hid (box54 w 1 0)
  have K0 := Lib.hid (Blk.new w 54 #[.int .i64 1, .int .i64 4, .int .i64 0])
  have C := halves_4 (w.alloc (.cells #[.int .i64 1, .int .i64 4, .int .i64 0] 54))
  have d0 := K0.out.cell 0
  have d1 := K0.out.cell 1
  go_enter Tryz.func242, Tryz.ntmps242
  go_wp2_with fail
  with_reducible refine C.now.mono ?_
  rintro e_ w_ ⟨rfl, n1, rfl⟩
  go_wp2_with fail
  go_ret
  exact ⟨rfl, below_drewN HB.out n1⟩
theorem reckon_2 (mv : Value) (w : World) : Calls Tryz.prog 242 #[mv, .agg #[.int .i64 2, .int .i64 4, .int .i64 0]] w fun e w' => e = .returned (.int .i64 24) ∧ Below w.heap.size w w' := by
  have HB := Lib.hid (box54 w 2 0)
  have K0 := Lib.hid (Blk.new w 54 #[.int .i64 2, .int .i64 4, .int .i64 0])
  have C := len_rd4 (w.alloc (.cells #[.int .i64 2, .int .i64 4, .int .i64 0] 54))
  have d0 := K0.out.cell 0
  have d1 := K0.out.cell 1
  go_enter Tryz.func242, Tryz.ntmps242
  go_wp2_with fail
  go_quiet ((go_at_call 152; first | exact Rd.qa (C) _ _ | exact Rd.q (C) _))
  go_wp2_with fail
  go_ret
  exact ⟨rfl, below_drewN HB.out _⟩
theorem reckon_3 (mv : Value) (w : World) : Calls Tryz.prog 242 #[mv, .agg #[.int .i64 3, .int .i64 4, .int .i64 0]] w fun e w' => e = .returned (.int .i64 36) ∧ Below w.heap.size w w' := by
  have HB := Lib.hid (box54 w 3 0)
  have K0 := Lib.hid (Blk.new w 54 #[.int .i64 3, .int .i64 4, .int .i64 0])
  have d0 := K0.out.cell 0
  have d1 := K0.out.cell 1
  go_enter Tryz.func242, Tryz.ntmps242
  go_wp2_with fail
  go_wp2_with fail
  with_reducible refine ((Radices_4 _)).mono ?_
  rintro e w2 ⟨v, rfl, ho, hb2⟩
  have B2 := Lib.hid (below_then HB.out HB.out.size hb2)
  have K2 := Lib.hid (K0.out.below hb2 K0.out.lt)
  have f0 := K2.out.cell 0
  have f1 := K2.out.cell 1
  obtain ⟨A, cp, rfl, _⟩ := ho.form
  obtain ⟨g, rfl⟩ := ho.some (i := 0) (by decide)
  have y0 := ho.cellAt (i := 0) (by decide)
  have y1 := ho.cellAt (i := 1) (by decide)
  clear ho hb2 d0 d1
  go_wp2_with fail
  repeat ((first | rw [rounds_succ] | refine wp_loop_rounds 8 ?_); go_wp2_with fail)
  go_wp2_with fail
  go_ret
  exact ⟨rfl, B2.out⟩
open Go.Maps
theorem laid54 : laidOutB Tryz.prog = true := by kernel_rfl
theorem key54 : Keyed Tryz.prog 54 := Keyed.of_law (deep_law_laid laid54 (m := 3) (by omega) (of_decide_eq_true (by kernel_rfl)) (by kernel_rfl) (by rw [Tryz.underlying54]))
def klb (k : Nat) : List UInt8 := List.replicate 7 0 ++ [UInt8.ofNat k] ++ List.replicate 7 0 ++ [4] ++ List.replicate 8 0
def kl (k : Nat) : Lit := .string (klb k)
theorem key54_0 : keyOf Tryz.prog 54 (.agg #[.int .i64 0, .int .i64 4, .int .i64 0]) = some (kl 0) := by kernel_rfl
theorem key54_1 : keyOf Tryz.prog 54 (.agg #[.int .i64 1, .int .i64 4, .int .i64 0]) = some (kl 1) := by kernel_rfl
theorem key54_2 : keyOf Tryz.prog 54 (.agg #[.int .i64 2, .int .i64 4, .int .i64 0]) = some (kl 2) := by kernel_rfl
theorem key54_3 : keyOf Tryz.prog 54 (.agg #[.int .i64 3, .int .i64 4, .int .i64 0]) = some (kl 3) := by kernel_rfl
end Go.Proofs.YtpkpadepccneeaaGreatDoor

/- The walk of plan's costs through their map; plan.Choose at length 4 in the field of 5. No condition. -/
namespace Go.Proofs.YtpkpadepccneeaaGreatDoor
set_option linter.unusedVariables false
set_option linter.unusedSimpArgs false
open Go Go.RowKit Go.Shelf Go.Maps
attribute [local go_sem] Oper.semAt_some
/-- The map of costs: whatever of the four ways it holds, it holds rightly. -/
def Book (w : World) (b m : Nat) : Prop := ∃ (n : Nat) (D : DataW Value), n ≤ m ∧ w.ownsMap Tryz.prog 54 (plainElem Tryz.prog 3) b n D ∧ ∀ k, k < 4 → Maps.has D (kl k) = true → D.atKey (kl k) (.lit (.int .i64 0)) = .lit (.int .i64 (cost4 k))
theorem kl_ne {k j : Nat} (hk : k < 4) (hj : j < 4) (h : j ≠ k) : kl j ≠ kl k := by
  have : ∀ a, a < 4 → ∀ b, b < 4 → b ≠ a → klb b ≠ klb a := by decide
  intro e
  unfold kl at e
  injection e with e
  exact this k hk j hj h e
theorem Book.lt {w : World} {b m : Nat} (h : Book w b m) : b < w.heap.size := by
  obtain ⟨n, D, _, ho, _⟩ := h
  exact World.ownsMap.lt ho
theorem Book.fr {w w1 : World} {b m : Nat} {S : Nat → Prop} (h : Book w b m) (hf : Fr S w w1) (hS : ¬ S b) : Book w1 b m := by
  obtain ⟨n, D, h1, ho, h2⟩ := h
  exact ⟨n, D, h1, hf.map ho hS, h2⟩
theorem lit_int_eq {c x : Int} (h : (DataW.lit (.int .i64 c) : DataW Value) = .lit (.int .i64 x)) : c = x := by injection h with h; injection h
theorem zero3 (w : World) : (zeroValue 3).run Tryz.prog w = .ok (.int .i64 0) w := by kernel_rfl
set_option maxHeartbeats 1000000 in
theorem cost_any (k : Nat) (hk : k < 4) (kk c : Int) (hkey : keyOf Tryz.prog 54 (.agg #[.int .i64 kk, .int .i64 4, .int .i64 0]) = some (kl k)) (hc : cost4 k = c) (hw : (Lit.int .i64 c).wf = true)
    (hr : ∀ mv W, Calls Tryz.prog 242 #[mv, .agg #[.int .i64 kk, .int .i64 4, .int .i64 0]] W fun e w' => e = .returned (.int .i64 c) ∧ Below W.heap.size W w')
    (b m : Nat) (w : World) (hb : Book w b m) (hm : m < 1000) :
    Calls Tryz.prog 190 #[.map (some b), .agg #[.int .i64 kk, .int .i64 4, .int .i64 0]] w fun e w' => e = .returned (.int .i64 c) ∧ Book w' b (m + 1) ∧ Fr (fun i => i = b) w w' := by
  obtain ⟨n, D, hn, ho, hD⟩ := hb
  have HB := Lib.hid (show Below w.heap.size w (w.alloc (.cells #[.int .i64 kk, .int .i64 4, .int .i64 0] 54)) from (Below.refl _ _).alloc (Nat.le_refl _) _)
  have K0 := Lib.hid (Blk.new w 54 #[.int .i64 kk, .int .i64 4, .int .i64 0])
  have HM := Lib.hid (World.ownsMap.alloc ho (.cells #[.int .i64 kk, .int .i64 4, .int .i64 0] 54))
  have HD := Lib.hid hD
  have hnm : n < maxLen := by unfold maxLen; omega
  have HR := Lib.hid (hr (.map (some b)) (w.alloc (.cells #[.int .i64 kk, .int .i64 4, .int .i64 0] 54)))
  have d0 := K0.out.cell 0
  have d1 := K0.out.cell 1
  have d2 := K0.out.cell 2
  clear ho hD hr
  go_enter Tryz.func190, Tryz.ntmps190
  cases hh : Maps.has D (kl k)
  · replace hh := Lib.hid hh
    go_wp2_with (at_lookup; refine wpList_lookup_own_ok_int _ rfl (.tmp 9) (.tmp 10) 266 rfl 54 3 .i64 key54 Tryz.underlying266 Tryz.underlying3 (zero3 _) b n D rfl HM.out (.agg #[.int .i64 kk, .int .i64 4, .int .i64 0]) (kl k) rfl hkey ?_; rw [hh.out]; intro x _ _)
    go_wp2_with fail
    go_wp2_with fail
    with_reducible refine (HR.out).mono ?_
    rintro e w2 ⟨rfl, hb2⟩
    have HM2 := Lib.hid ((Fr.of_below (fun _ => False) hb2).map HM.out (fun h => h))
    have B2 := Lib.hid (below_then HB.out HB.out.size hb2)
    have K2 := Lib.hid (K0.out.below hb2 K0.out.lt)
    have e0 := K2.out.cell 0
    have e1 := K2.out.cell 1
    have e2 := K2.out.cell 2
    clear hb2 d0 d1 d2
    go_wp2_with (at_mapUpdate; refine wpList_mapUpdate_own _ rfl (.tmp 19) (.tmp 20) (.tmp 21) 266 rfl 54 3 key54 Tryz.underlying266 (plainElem Tryz.prog 3) b n D rfl HM2.out hnm (.agg #[.int .i64 kk, .int .i64 4, .int .i64 0]) (.int .i64 c) (kl k) rfl rfl hkey (.lit (.int .i64 c)) [] (plainElem_int Tryz.underlying3 hw) ?_; intro w3 hm3 hg3; have M3 := Lib.hid hm3; have G3 := Lib.hid hg3; clear hm3 hg3)
    go_wp2_with fail
    have HBk : Book w3 b (m + 1) := by
      have hkk := key54.key hkey
      have hmp := World.ownsMap.isMap HM2.out
      refine ⟨n + 1, _, by omega, M3.out, fun j hj hhas => ?_⟩
      by_cases e : j = k
      · subst e
        rw [atKey_put_same hmp hkk, hc]
      · rw [has_put_other (kl_ne hk hj e)] at hhas
        rw [atKey_put_other (kl_ne hk hj e)]
        exact HD.out j hj hhas
    go_wp2_with fail
    go_ret
    exact ⟨rfl, HBk, ((Fr.of_below (fun i => i = b) B2.out).trans (Fr.of_grown G3.out (fun r e => (Option.some.inj e).symm)))⟩
  · have hcc := HD.out k hk hh
    rw [hc] at hcc
    replace hh := Lib.hid hh
    replace hcc := Lib.hid hcc
    go_wp2_with (at_lookup; refine wpList_lookup_own_ok_int _ rfl (.tmp 9) (.tmp 10) 266 rfl 54 3 .i64 key54 Tryz.underlying266 Tryz.underlying3 (zero3 _) b n D rfl HM.out (.agg #[.int .i64 kk, .int .i64 4, .int .i64 0]) (kl k) rfl hkey ?_; rw [hh.out, hcc.out]; rintro x hx _; obtain rfl : c = x := lit_int_eq hx)
    go_wp2_with fail
    go_ret
    exact ⟨rfl, ⟨n, D, by omega, HM.out, HD.out⟩, Fr.of_below _ HB.out⟩
/-- What each of the four plain ways costs, out of the book. -/
theorem cost_k (k : Nat) (hk : k < 4) (b m : Nat) (w : World) (hb : Book w b m) (hm : m < 1000) :
    Calls Tryz.prog 190 #[.map (some b), .agg #[.int .i64 (k : Int), .int .i64 4, .int .i64 0]] w fun e w' => e = .returned (.int .i64 (cost4 k)) ∧ Book w' b (m + 1) ∧ Fr (fun i => i = b) w w' := by
  rcases (by omega : k = 0 ∨ k = 1 ∨ k = 2 ∨ k = 3) with rfl | rfl | rfl | rfl
  · exact cost_any 0 hk 0 16 key54_0 rfl (by decide) reckon_0 b m w hb hm
  · exact cost_any 1 hk 1 28 key54_1 rfl (by decide) reckon_1 b m w hb hm
  · exact cost_any 2 hk 2 24 key54_2 rfl (by decide) reckon_2 b m w hb hm
  · exact cost_any 3 hk 3 36 key54_3 rfl (by decide) reckon_3 b m w hb hm
end Go.Proofs.YtpkpadepccneeaaGreatDoor
