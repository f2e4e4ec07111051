/- The walks of limbs: Scale, Times, and at small numbers Add, Compare, Rest. No condition. -/
import Derived.Test.YtpkpadepccneeaaGreatDoorP13
import Derived.Test.YtpkpadepccneeaaGreatDoorP14
import Derived.BigRegion
namespace Go.Proofs.YtpkpadepccneeaaGreatDoor
open Go.RowKit
set_option linter.unusedVariables false
set_option linter.unusedSimpArgs false
/-- A digit of a product, and what is carried. -/
def lo (a k c : Nat) : Nat := (a * k + c) % Mg.R
def hi (a k c : Nat) : Nat := (a * k + c) / Mg.R
theorem lo_lt (a k c : Nat) : lo a k c < Mg.R := Nat.mod_lt _ (by decide)
theorem hi_lt {a k c : Nat} (ha : a < Mg.R) (hk : k < Mg.R) (hc : c < Mg.R) : hi a k c < Mg.R := by
  have h : a * k ≤ 18446744073709551615 * 18446744073709551615 := Nat.mul_le_mul (by simp only [Mg.R] at ha; omega) (by simp only [Mg.R] at hk; omega)
  unfold hi
  generalize a * k = P at *
  simp only [Mg.R] at *
  omega
theorem sc_facts (a k c : Nat) (ha : a < Mg.R) (hk : k < Mg.R) (hc : c < Mg.R) : ((a * k % Mg.R : Nat) + (c : Int)) % 18446744073709551616 = (lo a k c : Nat) ∧
    ∃ d : Nat, ((a * k % Mg.R : Nat) + (c : Int)) / 18446744073709551616 = d ∧ IntKind.u64.wrap (((a * k / Mg.R : Nat) : Int) + d) = (hi a k c : Nat) := by
  have h : a * k ≤ 18446744073709551615 * 18446744073709551615 := Nat.mul_le_mul (by simp only [Mg.R] at ha; omega) (by simp only [Mg.R] at hk; omega)
  unfold lo hi
  generalize a * k = P at *
  simp only [Mg.R] at *
  refine ⟨by omega, (P % 18446744073709551616 + c) / 18446744073709551616, by omega, ?_⟩
  rw [IntKind.wrap_u64]
  omega
theorem ix252_0 (x y z : Value) (w : World) : (Instr.index 252 (.agg #[x, y, z]) (.int .i64 0)).run Tryz.prog w = .ok x w := by kernel_rfl
theorem ix252_1 (x y z : Value) (w : World) : (Instr.index 252 (.agg #[x, y, z]) (.int .i64 1)).run Tryz.prog w = .ok y w := by kernel_rfl
theorem ix252_2 (x y z : Value) (w : World) : (Instr.index 252 (.agg #[x, y, z]) (.int .i64 2)).run Tryz.prog w = .ok z w := by kernel_rfl
theorem blocks3 (w : World) (o1 o2 o3 : Array Value) (t1 t2 t3 : TypeId) : Blk (((w.alloc (.cells o1 t1)).alloc (.cells o2 t2)).alloc (.cells o3 t3)) w.heap.size t1 o1 ∧ Blk (((w.alloc (.cells o1 t1)).alloc (.cells o2 t2)).alloc (.cells o3 t3)) (w.heap.size + 1) t2 o2 ∧
    Blk (((w.alloc (.cells o1 t1)).alloc (.cells o2 t2)).alloc (.cells o3 t3)) (w.heap.size + 2) t3 o3 ∧ Below w.heap.size w (((w.alloc (.cells o1 t1)).alloc (.cells o2 t2)).alloc (.cells o3 t3)) ∧ (((w.alloc (.cells o1 t1)).alloc (.cells o2 t2)).alloc (.cells o3 t3)).heap.size = w.heap.size + 3 := by
  have h2 := Blk.new (w.alloc (.cells o1 t1)) t2 o2
  have h3 := Blk.new ((w.alloc (.cells o1 t1)).alloc (.cells o2 t2)) t3 o3
  simp only [World.size_alloc] at h2 h3
  exact ⟨((Blk.new w t1 o1).alloc _).alloc _, h2.alloc _, h3, (((Below.refl _ w).alloc (Nat.le_refl _) _).alloc (by simp) _).alloc (by simp; omega) _, by simp only [World.size_alloc]⟩
theorem put3' {W : World} {g : Nat} {t : TypeId} {a0 a1 a2 : Value} (h : Blk W g t #[a0, a1, a2]) (v0 v1 v2 : Value) :
    Blk (((W.setCell ⟨g, 0, none⟩ v0).setCell ⟨g, 1, none⟩ v1).setCell ⟨g, 2, none⟩ v2) g t #[v0, v1, v2] ∧ Fr (fun i => i = g) W (((W.setCell ⟨g, 0, none⟩ v0).setCell ⟨g, 1, none⟩ v1).setCell ⟨g, 2, none⟩ v2) :=
by
  refine ⟨?_, ((Fr.setCell (S := fun i => i = g) (p := ⟨g, 0, none⟩) rfl _ _).trans (Fr.setCell (S := fun i => i = g) (p := ⟨g, 1, none⟩) rfl _ _)).trans (Fr.setCell (S := fun i => i = g) (p := ⟨g, 2, none⟩) rfl _ _)⟩
  have h3 := ((h.set_ 0 v0).set_ 1 v1).set_ 2 v2
  simp only [List.setIfInBounds_toArray, List.set_cons_zero, List.set_cons_succ] at h3
  exact h3
theorem Fr.or' {S T U : Nat → Prop} {w w1 w2 : World} (h : Fr S w w1) (k : Fr T w1 w2) (h1 : ∀ i, i < w.heap.size → S i → U i) (h2 : ∀ i, i < w.heap.size → T i → U i) : Fr U w w2 :=
  ⟨k.os.trans h.os, k.tape.trans h.tape, k.output.trans h.output, Nat.le_trans h.size k.size, fun i hi hs => (k.block i (Nat.lt_of_lt_of_le hi h.size) (fun t => hs (h2 i hi t))).trans (h.block i hi (fun s => hs (h1 i hi s)))⟩
set_option maxRecDepth 100000 in
set_option maxHeartbeats 1000000 in
theorem Scale_any (a0 a1 a2 k : Nat) (h0 : a0 < Mg.R) (h1 : a1 < Mg.R) (h2 : a2 < Mg.R) (hk : k < Mg.R) (w : World) :
    Calls Tryz.prog 174 #[.agg #[.int .u64 a0, .int .u64 a1, .int .u64 a2], .int .u64 k] w fun e w' =>
      e = .returned (.tuple #[.agg #[.int .u64 (lo a0 k 0 : Nat), .int .u64 (lo a1 k (hi a0 k 0) : Nat), .int .u64 (lo a2 k (hi a1 k (hi a0 k 0)) : Nat)], .int .u64 (hi a2 k (hi a1 k (hi a0 k 0)) : Nat)]) ∧ Below w.heap.size w w' := by
  obtain ⟨A1, A2, A3, HB, HS⟩ := blocks3 w #[.int .u64 a0, .int .u64 a1, .int .u64 a2] #[.int .u64 0, .int .u64 0, .int .u64 0] #[.int .u64 0, .int .u64 0, .int .u64 0] 252 252 252
  have B1 := Lib.hid A1
  have B2 := Lib.hid A2
  have B3 := Lib.hid A3
  have BB := Lib.hid HB
  obtain ⟨f0, d0, q0, s0⟩ := sc_facts a0 k 0 h0 hk (by decide)
  obtain ⟨f1, d1, q1, s1⟩ := sc_facts a1 k (hi a0 k 0) h1 hk (hi_lt h0 hk (by decide))
  obtain ⟨f2, d2, q2, s2⟩ := sc_facts a2 k (hi a1 k (hi a0 k 0)) h2 hk (hi_lt h1 hk (hi_lt h0 hk (by decide)))
  have M0 := Lib.hid fun W => Mul64_any a0 k h0 hk W
  have M1 := Lib.hid fun W => Mul64_any a1 k h1 hk W
  have M2 := Lib.hid fun W => Mul64_any a2 k h2 hk W
  rw [show (18446744073709551616 : Nat) = Mg.R from rfl] at M0 M1 M2
  have e0 := A1.cell 0
  have e1 := A1.cell 1
  have e2 := A1.cell 2
  have t0 := A3.cell 0
  have t1 := A3.cell 1
  have t2 := A3.cell 2
  have u0 := A3.frozen 0
  have u1 := A3.frozen 1
  have u2 := A3.frozen 2
  have r0 := A2.cell 0
  have r1 := A2.cell 1
  have r2 := A2.cell 2
  have v0 := A2.frozen 0
  have v1 := A2.frozen 1
  have v2 := A2.frozen 2
  clear A1 A2 A3 HB h0 h1 h2 hk
  have x0 := ix252_0 (.int .u64 a0) (.int .u64 a1) (.int .u64 a2)
  have x1 := ix252_1 (.int .u64 a0) (.int .u64 a1) (.int .u64 a2)
  have x2 := ix252_2 (.int .u64 a0) (.int .u64 a1) (.int .u64 a2)
  have p0 : (0 : Int) ≤ ((a0 * k % Mg.R : Nat) : Int) := by omega
  have p1 : (0 : Int) ≤ ((a1 * k % Mg.R : Nat) : Int) := by omega
  have p2 : (0 : Int) ≤ ((a2 * k % Mg.R : Nat) : Int) := by omega
  have p3 : (0 : Int) ≤ ((hi a0 k 0 : Nat) : Int) := by omega
  have p4 : (0 : Int) ≤ ((hi a1 k (hi a0 k 0) : Nat) : Int) := by omega
  generalize hi a2 k (hi a1 k (hi a0 k 0)) = z2 at *
  generalize lo a2 k (hi a1 k (hi a0 k 0)) = y2 at *
  generalize hi a1 k (hi a0 k 0) = z1 at *
  generalize lo a1 k (hi a0 k 0) = y1 at *
  generalize hi a0 k 0 = z0 at *
  generalize lo a0 k 0 = y0 at *
  generalize a0 * k / Mg.R = c0 at *
  generalize a1 * k / Mg.R = c1 at *
  generalize a2 * k / Mg.R = c2 at *
  generalize a0 * k % Mg.R = l0 at *
  generalize a1 * k % Mg.R = l1 at *
  generalize a2 * k % Mg.R = l2 at *
  go_enter Tryz.func174, Tryz.ntmps174
  go_wp2_with fail
  generalize ((w.alloc (.cells #[.int .u64 a0, .int .u64 a1, .int .u64 a2] 252)).alloc (.cells #[.int .u64 0, .int .u64 0, .int .u64 0] 252)).alloc (.cells #[.int .u64 0, .int .u64 0, .int .u64 0] 252) = W at *
  have p5 : (0 : Int) ≤ 0 := Int.le_refl 0
  have f0' : (l0 : Int) % 18446744073709551616 = (y0 : Int) := by simpa using f0
  have q0' : (l0 : Int) / 18446744073709551616 = (d0 : Int) := by simpa using q0
  clear f0 q0
  refine wp_loop_rounds 4 ?_
  rw [rounds_succ]
  go_wp2_with fail
  with_reducible refine ((M0.out _)).mono ?_
  rintro e w1 ⟨rfl, rfl⟩
  go_wp2_with (simp only [add64_0 (l0 : Int) 0 p0 p5])
  rw [rounds_succ]
  go_wp2_with fail
  with_reducible refine ((M1.out _)).mono ?_
  rintro e w1 ⟨rfl, rfl⟩
  go_wp2_with (simp only [add64_0 (l1 : Int) (z0 : Int) p1 p3])
  rw [rounds_succ]
  go_wp2_with fail
  with_reducible refine ((M2.out _)).mono ?_
  rintro e w1 ⟨rfl, rfl⟩
  go_wp2_with (simp only [add64_0 (l2 : Int) (z1 : Int) p2 p4])
  rw [rounds_succ]
  go_wp2_with fail
  obtain ⟨K3, F3⟩ := put3' B3.out (.int .u64 y0) (.int .u64 y1) (.int .u64 y2)
  have K2 := F3.blk B2.out (show ¬ w.heap.size + 1 = w.heap.size + 2 by omega)
  obtain ⟨K4, F4⟩ := put3' K2 (.int .u64 y0) (.int .u64 y1) (.int .u64 y2)
  have q0 := K4.cell 0
  have q1 := K4.cell 1
  have q2 := K4.cell 2
  have HF := ((Fr.of_below (fun i => False) BB.out).or' F3 (U := fun i => w.heap.size ≤ i) (fun i _ h => h.elim) (fun i hi h => by omega)).or' F4 (U := fun i => w.heap.size ≤ i) (fun i _ h => h) (fun i hi h => by omega)
  exact bodyPost_ret (v := .tuple #[.agg #[.int .u64 y0, .int .u64 y1, .int .u64 y2], .int .u64 z2]) (by simp [results, Tryz.results174, go_sem, q0, q1, q2]) rfl ⟨rfl, HF.to_below (Nat.le_refl _) (fun i hi h => by omega)⟩
theorem Times_rd (a b : Nat) (ha : a < Mg.R) (hb : b < Mg.R) (w : World) : Rd 257 #[.int .u64 a, .int .u64 b] w (.tuple #[.int .u64 ((a * b / Mg.R : Nat) : Int), .int .u64 ((a * b % Mg.R : Nat) : Int)]) := by
  refine Rd.of_drawn fun n => ?_
  have C := Mul64_rd a b ha hb w
  generalize a * b / Mg.R = A at *
  generalize a * b % Mg.R = L at *
  go_enter Tryz.func257, Tryz.ntmps257
  go_wp2_with fail
  with_reducible refine (Rd.go (C) _).mono ?_
  rintro e_ w_ ⟨rfl, k1, rfl⟩
  go_wp2_with fail
  go_ret2
  exact ⟨rfl, drawn_le (by omega)⟩
theorem blocks2 (w : World) (o1 o2 : Array Value) (t1 t2 : TypeId) : Blk ((w.alloc (.cells o1 t1)).alloc (.cells o2 t2)) w.heap.size t1 o1 ∧ Blk ((w.alloc (.cells o1 t1)).alloc (.cells o2 t2)) (w.heap.size + 1) t2 o2 ∧ Below w.heap.size w ((w.alloc (.cells o1 t1)).alloc (.cells o2 t2)) := by
  have h2 := Blk.new (w.alloc (.cells o1 t1)) t2 o2
  simp only [World.size_alloc] at h2
  exact ⟨(Blk.new w t1 o1).alloc _, h2, ((Below.refl _ w).alloc (Nat.le_refl _) _).alloc (by simp) _⟩
set_option maxRecDepth 100000 in
set_option maxHeartbeats 1000000 in
/-- Compare, where the third digits are alike and the second of the first one is less. -/
theorem Compare_lt (a0 a1 b0 b1 z : Nat) (h : a1 < b1) (w : World) : Calls Tryz.prog 259 #[.agg #[.int .u64 a0, .int .u64 a1, .int .u64 z], .agg #[.int .u64 b0, .int .u64 b1, .int .u64 z]] w fun e w' => e = .returned (.int .i64 (-1)) ∧ Below w.heap.size w w' := by
  obtain ⟨A1, A2, HB⟩ := blocks2 w #[.int .u64 a0, .int .u64 a1, .int .u64 z] #[.int .u64 b0, .int .u64 b1, .int .u64 z] 252 252
  have BB := Lib.hid HB
  have e1 := A1.cell 1
  have e2 := A1.cell 2
  have t1 := A2.cell 1
  have t2 := A2.cell 2
  have g1 : decide (a1 < b1) = true := decide_eq_true h
  have g2 : decide (z < z) = false := decide_eq_false (Nat.lt_irrefl _)
  have g3 : decide ((z : Int) < z) = false := decide_eq_false (Int.lt_irrefl _)
  clear A1 A2 HB h
  go_enter Tryz.func259, Tryz.ntmps259
  go_wp2_with fail
  generalize (w.alloc (.cells #[.int .u64 a0, .int .u64 a1, .int .u64 z] 252)).alloc (.cells #[.int .u64 b0, .int .u64 b1, .int .u64 z] 252) = W at *
  refine wp_loop_rounds 4 ?_
  rw [rounds_succ]
  go_wp2_with fail
  go_quiet (fail)
  go_wp2_with fail
  go_quiet (fail)
  go_wp2_with fail
  rw [rounds_succ]
  go_wp2_with fail
  go_quiet (fail)
  go_wp2_with fail
  go_ret
  exact ⟨rfl, by repeat (first | exact BB.out | refine below_drewN ?_ _)⟩
set_option maxRecDepth 100000 in
set_option maxHeartbeats 1000000 in
theorem Rest_0 (a p : Nat) (ha : a < Mg.R) (hp : 0 < p) (hpR : p < Mg.R) (w : World) : Calls Tryz.prog 262 #[.agg #[.int .u64 a, .int .u64 0, .int .u64 0], .int .u64 p] w fun e w' => e = .returned (.int .u64 ((a % p : Nat) : Int)) ∧ Below w.heap.size w w' := by
  have A1 := Blk.new w 252 #[.int .u64 a, .int .u64 0, .int .u64 0]
  have BB := Lib.hid ((Below.refl w.heap.size w).alloc (Nat.le_refl _) (.cells #[.int .u64 a, .int .u64 0, .int .u64 0] 252))
  have e0 := A1.cell 0
  have e1 := A1.cell 1
  have e2 := A1.cell 2
  have g0 : ((p : Int) == 0) = false := beq_eq_false_iff_ne.2 (by omega)
  have R0 := Lib.hid fun W => (show Rd 101 #[.int .u64 0, .int .u64 0, .int .u64 p] W (.int .u64 0) from by
    have h := Rem64_rd 0 0 p (by decide) (by decide) hp hpR W
    rw [show (0 * Mg.R + 0) % p = 0 by simp] at h
    exact h)
  have R1 := Lib.hid fun W => (show Rd 101 #[.int .u64 0, .int .u64 a, .int .u64 p] W (.int .u64 ((a % p : Nat) : Int)) from by
    have h := Rem64_rd 0 a p (by decide) ha hp hpR W
    rw [show (0 * Mg.R + a) % p = a % p by simp] at h
    exact h)
  generalize a % p = r at *
  clear A1
  go_enter Tryz.func262, Tryz.ntmps262
  go_wp2_with fail
  generalize w.alloc (.cells #[.int .u64 a, .int .u64 0, .int .u64 0] 252) = W at *
  refine wp_loop_rounds 4 ?_
  rw [rounds_succ]
  go_wp2_with fail
  with_reducible refine (R0.out _).now.mono ?_
  rintro e_ w_ ⟨rfl, k1, rfl⟩
  go_wp2_with fail
  rw [rounds_succ]
  go_wp2_with fail
  with_reducible refine (R0.out _).now.mono ?_
  rintro e_ w_ ⟨rfl, k2, rfl⟩
  go_wp2_with fail
  rw [rounds_succ]
  go_wp2_with fail
  with_reducible refine (R1.out _).now.mono ?_
  rintro e_ w_ ⟨rfl, k3, rfl⟩
  go_wp2_with fail
  rw [rounds_succ]
  go_wp2_with fail
  go_ret
  exact ⟨rfl, by repeat (first | exact BB.out | refine below_drewN ?_ _)⟩
theorem blocks4 (w : World) (o1 o2 o3 o4 : Array Value) (t1 t2 t3 t4 : TypeId) : Blk ((((w.alloc (.cells o1 t1)).alloc (.cells o2 t2)).alloc (.cells o3 t3)).alloc (.cells o4 t4)) w.heap.size t1 o1 ∧ Blk ((((w.alloc (.cells o1 t1)).alloc (.cells o2 t2)).alloc (.cells o3 t3)).alloc (.cells o4 t4)) (w.heap.size + 1) t2 o2 ∧
    Blk ((((w.alloc (.cells o1 t1)).alloc (.cells o2 t2)).alloc (.cells o3 t3)).alloc (.cells o4 t4)) (w.heap.size + 1 + 1) t3 o3 ∧ Blk ((((w.alloc (.cells o1 t1)).alloc (.cells o2 t2)).alloc (.cells o3 t3)).alloc (.cells o4 t4)) (w.heap.size + 1 + 1 + 1) t4 o4 ∧ Below w.heap.size w ((((w.alloc (.cells o1 t1)).alloc (.cells o2 t2)).alloc (.cells o3 t3)).alloc (.cells o4 t4)) := by
  obtain ⟨h1, h2, h3, hb, hs⟩ := blocks3 w o1 o2 o3 t1 t2 t3
  have h4 := Blk.new (((w.alloc (.cells o1 t1)).alloc (.cells o2 t2)).alloc (.cells o3 t3)) t4 o4
  rw [hs] at h4
  exact ⟨h1.alloc _, h2.alloc _, h3.alloc _, h4, hb.alloc hb.size _⟩
/-- What Add's rounds stand on. -/
structure A4 (w W : World) (x : Nat) (cs : Array Value) : Prop where
  a : Blk W w.heap.size 252 #[.int .u64 x, .int .u64 0, .int .u64 0]
  b : Blk W (w.heap.size + 1) 252 #[.int .u64 0, .int .u64 0, .int .u64 0]
  r : Blk W (w.heap.size + 1 + 1) 252 #[.int .u64 0, .int .u64 0, .int .u64 0]
  o : Blk W (w.heap.size + 1 + 1 + 1) 252 cs
  h : Below w.heap.size w W
theorem A4.put {w W : World} {x : Nat} {cs : Array Value} (h : A4 w W x cs) (i : Nat) (v : Value) : A4 w (W.setCell ⟨w.heap.size + 1 + 1 + 1, i, none⟩ v).drew x (cs.setIfInBounds i v) :=
  ⟨h.a.far (p := ⟨w.heap.size + 1 + 1 + 1, i, none⟩) (by show w.heap.size ≠ w.heap.size + 1 + 1 + 1; omega) v, h.b.far (p := ⟨w.heap.size + 1 + 1 + 1, i, none⟩) (by show w.heap.size + 1 ≠ w.heap.size + 1 + 1 + 1; omega) v,
    h.r.far (p := ⟨w.heap.size + 1 + 1 + 1, i, none⟩) (by show w.heap.size + 1 + 1 ≠ w.heap.size + 1 + 1 + 1; omega) v, Blk.set_ h.o i v, (h.h.setCell (p := ⟨w.heap.size + 1 + 1 + 1, i, none⟩) (by show w.heap.size ≤ w.heap.size + 1 + 1 + 1; omega) v).drew⟩
set_option maxRecDepth 100000 in
set_option maxHeartbeats 1000000 in
theorem Add_0 (x : Nat) (hx : x < Mg.R) (w : World) : Calls Tryz.prog 295 #[.agg #[.int .u64 x, .int .u64 0, .int .u64 0], .agg #[.int .u64 0, .int .u64 0, .int .u64 0]] w fun e w' => e = .returned (.tuple #[.agg #[.int .u64 x, .int .u64 0, .int .u64 0], .bool false]) ∧ Below w.heap.size w w' := by
  obtain ⟨A1, A2, A3, A5, HB⟩ := blocks4 w #[.int .u64 x, .int .u64 0, .int .u64 0] #[.int .u64 0, .int .u64 0, .int .u64 0] #[.int .u64 0, .int .u64 0, .int .u64 0] #[.int .u64 0, .int .u64 0, .int .u64 0] 252 252 252 252
  have HA := Lib.hid (show A4 w _ x #[.int .u64 0, .int .u64 0, .int .u64 0] from ⟨A1, A2, A3, A5, HB⟩)
  have CA : ∀ W, (callFunc 217 #[.int .u64 x, .int .u64 0, .int .u64 0]).run Tryz.prog W = .ok (.value (.tuple #[.int .u64 x, .int .u64 0])) W := fun W => by
    have e1 : ((x : Int) + 0) % 18446744073709551616 = x := by simp only [Mg.R] at hx; omega
    have e2 : ((x : Int) + 0) / 18446744073709551616 = 0 := by simp only [Mg.R] at hx; omega
    rw [add64_0 x 0 (by omega) (by omega), e1, e2]
  have CZ : ∀ W, (callFunc 217 #[.int .u64 0, .int .u64 0, .int .u64 0]).run Tryz.prog W = .ok (.value (.tuple #[.int .u64 0, .int .u64 0])) W := fun W => by
    rw [add64_0 0 0 (by omega) (by omega)]
    rfl
  clear A1 A2 A3 A5 HB
  go_enter Tryz.func295, Tryz.ntmps295
  go_wp2_with fail
  generalize (((w.alloc (.cells #[.int .u64 x, .int .u64 0, .int .u64 0] 252)).alloc (.cells #[.int .u64 0, .int .u64 0, .int .u64 0] 252)).alloc (.cells #[.int .u64 0, .int .u64 0, .int .u64 0] 252)).alloc (.cells #[.int .u64 0, .int .u64 0, .int .u64 0] 252) = W at *
  refine wp_loop_rounds 4 ?_
  have a0 := HA.out.a.cell 0
  have b0 := HA.out.b.cell 0
  have o0 := HA.out.o.cell 0
  have u0 := HA.out.o.frozen 0
  have HA0 := Lib.hid (HA.out.put 0 (.int .u64 x))
  rw [rounds_succ]
  go_wp2_with fail
  go_region
  clear a0 b0 o0 u0 HA
  generalize (W.setCell ⟨w.heap.size + 1 + 1 + 1, 0, none⟩ (.int .u64 x)).drew = W0 at *
  clear W
  go_wp2_with fail
  have a0 := HA0.out.a.cell 1
  have b0 := HA0.out.b.cell 1
  have o0 := HA0.out.o.cell 1
  have u0 := HA0.out.o.frozen 1
  have HA1 := Lib.hid (HA0.out.put 1 (.int .u64 0))
  rw [rounds_succ]
  go_wp2_with fail
  go_region
  clear a0 b0 o0 u0 HA0
  generalize (W0.setCell ⟨w.heap.size + 1 + 1 + 1, 1, none⟩ (.int .u64 0)).drew = W1 at *
  clear W0
  go_wp2_with fail
  have a0 := HA1.out.a.cell 2
  have b0 := HA1.out.b.cell 2
  have o0 := HA1.out.o.cell 2
  have u0 := HA1.out.o.frozen 2
  have HA2 := Lib.hid (HA1.out.put 2 (.int .u64 0))
  rw [rounds_succ]
  go_wp2_with fail
  go_region
  clear a0 b0 o0 u0 HA1
  generalize (W1.setCell ⟨w.heap.size + 1 + 1 + 1, 2, none⟩ (.int .u64 0)).drew = W2 at *
  clear W1
  go_wp2_with fail
  have o0 := HA2.out.o.cell 0
  have o1 := HA2.out.o.cell 1
  have o2 := HA2.out.o.cell 2
  have r0 := HA2.out.r.cell 0
  have r1 := HA2.out.r.cell 1
  have r2 := HA2.out.r.cell 2
  have v0 := HA2.out.r.frozen 0
  have v1 := HA2.out.r.frozen 1
  have v2 := HA2.out.r.frozen 2
  rw [rounds_succ]
  go_wp2_with fail
  obtain ⟨K4, F4⟩ := put3' HA2.out.r (.int .u64 x) (.int .u64 0) (.int .u64 0)
  have q0 := K4.cell 0
  have q1 := K4.cell 1
  have q2 := K4.cell 2
  have HF := (Fr.of_below (fun i => False) HA2.out.h).or' F4 (U := fun i => w.heap.size ≤ i) (fun i _ h => h.elim) (fun i hi h => by omega)
  exact bodyPost_ret (v := .tuple #[.agg #[.int .u64 x, .int .u64 0, .int .u64 0], .bool false]) (by simp [results, Tryz.results295, go_sem, q0, q1, q2]) rfl ⟨rfl, HF.to_below (Nat.le_refl _) (fun i hi h => by omega)⟩
end Go.Proofs.YtpkpadepccneeaaGreatDoor
