/- The walks of twiddle's Root, Table and Lifted, there and back. No condition. -/
import Derived.Test.YtpkpadepccneeaaGreatDoorL24
import Derived.Test.YtpkpadepccneeaaGreatDoorL27
import Derived.Test.YtpkpadepccneeaaGreatDoorL28
import Derived.Deep.RegionHeld3
namespace Go.Proofs.YtpkpadepccneeaaGreatDoor
set_option linter.unusedVariables false
set_option linter.unusedSimpArgs false
open Go Go.RowKit Go.Shelf
theorem Root_inv (gf p g n : Nat) (w : World) (hf : FD w gf p g) (hg : g < Mg.R) (h1 : 1 ≤ n) (h2 : n ≤ 4096) (hd : divs p (n : Int) = true) (hc : Nat.gcd p (g ^ ((p - 1) / n) % p) = 1) :
    Rd 209 #[.pointer (some ⟨gf, 0, none⟩), .int .i64 n, .bool true] w (.tuple #[.int .u64 ((invN (g ^ ((p - 1) / n) % p) p : Nat) : Int), .int .i64 0]) := by
  refine Rd.of_drawn fun q => ?_
  have C := fRoot_rd gf p g n w hf hg (by omega) hd
  have C2 := fInv_rd gf p g (g ^ ((p - 1) / n) % p) w hf (Nat.lt_trans (Nat.mod_lt _ (by have := hf.low; omega)) (by have := hf.high; simp only [Mg.R]; omega)) hc
  have g1 : decide ((n : Int) < 1) = false := decide_eq_false (by omega)
  have g2 : decide ((4096 : Int) < (n : Int)) = false := decide_eq_false (by omega)
  have g3 : decide (4096 < n) = false := decide_eq_false (by omega)
  have g4 : decide (n < 1) = false := decide_eq_false (by omega)
  clear hf hd hc
  generalize g ^ ((p - 1) / n) % p = r at *
  generalize invN r p = s at *
  go_enter Tryz.func209, Tryz.ntmps209
  go_wp2_with fail
  with_reducible refine (Rd.go (C) _).mono ?_
  rintro e_ w_ ⟨rfl, k1, rfl⟩
  go_wp2_with fail
  with_reducible refine (Rd.go (C2) _).mono ?_
  rintro e_ w_ ⟨rfl, k2, rfl⟩
  go_wp2_with fail
  go_ret2
  exact ⟨rfl, drawn_le (by omega)⟩
set_option maxHeartbeats 1000000 in
theorem Table_of (gf p g n r : Nat) (bi : Bool) (w : World) (hf : FD w gf p g) (h1 : 1 ≤ n) (h2 : n ≤ 4096) (C : Rd 209 #[.pointer (some ⟨gf, 0, none⟩), .int .i64 n, .bool bi] w (.tuple #[.int .u64 (r : Int), .int .i64 0])) (hrR : r < Mg.R) :
    Calls Tryz.prog 146 #[.pointer (some ⟨gf, 0, none⟩), .int .i64 n, .bool bi] w fun e w' => ∃ v, e = .returned (.tuple #[v, .int .i64 0]) ∧ OI .u64 22 w' w.heap.size v (nats ((List.range n).map fun i => r ^ i % p)) ∧ Below w.heap.size w w' := by
  have HF := Lib.hid hf
  have hR : p < Mg.R := by have := hf.high; simp only [Mg.R]; omega
  have hp : 0 < p := by have := hf.low; omega
  clear hf
  go_enter Tryz.func146, Tryz.ntmps146
  go_wp2_with fail
  with_reducible refine C.now.mono ?_
  rintro e_ w_ ⟨rfl, k1, rfl⟩
  have C2 := fLift_rd gf p g r w HF.out hrR
  go_wp2_with fail
  with_reducible refine (Rd.go (C2) _).mono ?_
  rintro e_ w_ ⟨rfl, k2, rfl⟩
  go_wp2_with (refine wpList_makeI rfl (.tmp 27) (.tmp 27) 26 rfl w.heap.size 22 .u64 8 Tryz.underlying26 info22 (by decide) .i64 .i64 n rfl rfl (by omega) (Nat.le_refl _) ?_; intro w1 ho1 hb1 hs1; have HO1 := Lib.hid ho1; have HB1 := Lib.hid hb1; have HS1 := Lib.hid hs1; clear ho1 hb1 hs1)
  have HB0 := Lib.hid ((below_drewN (Below.refl w.heap.size w) (k1 + k2)).trans HB1.out)
  have HW0 := Lib.hid (show OF w1 w.heap.size w.heap.size n (fun i => r ^ i % p) 0 by unfold OF; rw [fillN_zero]; exact HO1.out)
  have HSZ := Lib.hid (show w.heap.size < w1.heap.size from HS1.out)
  clear HO1 HB1 HS1
  have h1p : 1 % p = 1 := Nat.mod_eq_of_lt (by have := HF.out.low; omega)
  go_loopw [12, 31] (fun acc i wr => ∃ k : Nat, k ≤ n ∧ i = .int .i64 k ∧ acc = .int .u64 ((r ^ k % p : Nat) : Int) ∧ Hid (OF wr w.heap.size w.heap.size n (fun i => r ^ i % p) k) ∧ Hid (Below w.heap.size w wr)) (fun _ i _ => n - (intOf i).toNat)
  case atStart => exact ⟨0, by omega, rfl, by rw [Nat.pow_zero, h1p]; rfl, HW0, HB0⟩
  case round =>
    obtain ⟨k, hk, rfl, rfl, HO, HB⟩ := hrel
    by_cases hlt : k < n
    · have c0 := HO.out.cell hlt
      have f0 := HO.out.frozen k
      have HP := Lib.hid (HO.out.put hlt)
      have HB2 := Lib.hid (HB.out.setCell (p := ⟨w.heap.size, k, none⟩) (Nat.le_refl _) (.int .u64 ((r ^ k % p : Nat) : Int)))
      have HF2 := Lib.hid (HF.out.below HB2.out)
      have C3 := fTimes_rd gf p g (Mg.mform p r) (r ^ k % p) (wr.setCell ⟨w.heap.size, k, none⟩ (.int .u64 ((r ^ k % p : Nat) : Int))) HF2.out (Nat.lt_trans (Mg.mform_lt hp r) hR) (Nat.lt_trans (Nat.mod_lt _ hp) hR)
      rw [Mg.mm_form hp HF.out.odd, Nat.mul_mod_mod, ← Nat.pow_succ'] at C3
      have hi0 : (0 : Int) ≤ (k : Int) := by omega
      have hi1 : (k : Int) < (n : Int) := by omega
      have C4 := Lib.hid C3
      clear C3
      generalize hz : r ^ k % p = z at *
      generalize hz2 : r ^ (k + 1) % p = z2 at *
      generalize Mg.mform p r = mr at *
      generalize (fillN (fun i => r ^ i % p) n k).getD k 0 = old at *
      go_wp2_with fail
      with_reducible refine (C4.out.now).mono ?_
      rintro e w3 ⟨rfl, k3, rfl⟩
      go_wp2_with fail
      go_roundw
      case rel => exact ⟨k + 1, by omega, by go_num, by rw [hz2], Lib.hid (HP.out.drewN k3), Lib.hid (below_drewN HB2.out k3)⟩
      case measure => simp [intOf]; omega
    · have hkk : k = n := by omega
      subst hkk
      go_wp2_with fail
      go_ret2
      refine ⟨_, rfl, ?_, HB.out⟩
      have := HO.out
      unfold OF at this
      rw [fillN_full] at this
      exact this
set_option maxHeartbeats 1000000 in
theorem Lifted_of (gf p g n r : Nat) (bi : Bool) (w : World) (hf : FD w gf p g) (h1 : 1 ≤ n) (h2 : n ≤ 4096) (C0 : Rd 209 #[.pointer (some ⟨gf, 0, none⟩), .int .i64 n, .bool bi] w (.tuple #[.int .u64 (r : Int), .int .i64 0])) (hrR : r < Mg.R) :
    Calls Tryz.prog 90 #[.pointer (some ⟨gf, 0, none⟩), .int .i64 n, .bool bi] w fun e w' => ∃ g' c, e = .returned (.tuple #[.slice (some ⟨g', 0, none⟩) n c, .int .i64 0]) ∧ OI .u64 22 w' w.heap.size (.slice (some ⟨g', 0, none⟩) n c) (nats ((List.range n).map fun i => Mg.mform p (r ^ i % p))) ∧ Below w.heap.size w w' := by
  have C := Table_of gf p g n r bi w hf h1 h2 C0 hrR
  have HF := Lib.hid hf
  have hR : p < Mg.R := by have := hf.high; simp only [Mg.R]; omega
  have hp : 0 < p := by have := hf.low; omega
  clear hf C0
  go_enter Tryz.func90, Tryz.ntmps90
  go_wp2_with fail
  with_reducible refine (C).mono ?_
  rintro e w1 ⟨v, rfl, ho, hb⟩
  obtain ⟨A, c, rfl, _⟩ := ho.form
  obtain ⟨g', rfl⟩ := ho.some (i := 0) (by rw [nats_len]; simp; omega)
  have hl : (nats ((List.range n).map fun i => r ^ i % p)).length = n := by rw [nats_len]; simp
  rw [hl] at ho ⊢
  have HW0 := Lib.hid (show OM w1 w.heap.size g' n c (fun i => Mg.mform p (r ^ i % p)) (fun i => r ^ i % p) 0 by unfold OM; rw [mixN_zero]; exact ho)
  have HB0 := Lib.hid hb
  have hgB : w.heap.size ≤ g' := ho.base.1
  clear ho hb hl
  go_wp2_with fail
  go_loopw [21] (fun i wr => ∃ k : Nat, k ≤ n ∧ i = .int .i64 k ∧ Hid (OM wr w.heap.size g' n c (fun i => Mg.mform p (r ^ i % p)) (fun i => r ^ i % p) k) ∧ Hid (Below w.heap.size w wr)) (fun i _ => n - (intOf i).toNat)
  case atStart => exact ⟨0, by omega, rfl, HW0, HB0⟩
  case round =>
    obtain ⟨k, hk, rfl, HO, HB⟩ := hrel
    by_cases hlt : k < n
    · have c0 := HO.out.cell hlt
      rw [if_neg (Nat.lt_irrefl k)] at c0
      have f0 := HO.out.frozen k
      have HP := Lib.hid (HO.out.put hlt)
      have HF2 := Lib.hid (HF.out.below HB.out)
      have C3 := fLift_rd gf p g (r ^ k % p) wr HF2.out (Nat.lt_trans (Nat.mod_lt _ hp) hR)
      have HB2 := Lib.hid (HB.out.setCell (p := ⟨g', k, none⟩) hgB (.int .u64 ((Mg.mform p (r ^ k % p) : Nat) : Int)))
      have hi0 : (0 : Int) ≤ (k : Int) := by omega
      have hi1 : (k : Int) < (n : Int) := by omega
      generalize Mg.mform p (r ^ k % p) = z2 at *
      generalize r ^ k % p = z at *
      have C4 := Lib.hid C3
      clear C3
      go_wp2_with fail
      with_reducible refine (C4.out.now).mono ?_
      rintro e w3 ⟨rfl, k3, rfl⟩
      go_wp2_with fail
      go_roundw
      case rel => exact ⟨k + 1, by omega, by go_num, Lib.hid (HP.out.drewN k3), Lib.hid (below_drewN HB2.out k3)⟩
      case measure => simp [intOf]; omega
    · have hkk : k = n := by omega
      subst hkk
      go_wp2_with fail
      go_ret2
      refine ⟨_, _, rfl, ?_, HB.out⟩
      have := HO.out
      unfold OM at this
      rw [mixN_full] at this
      exact this
end Go.Proofs.YtpkpadepccneeaaGreatDoor

/- The walks of dft.Scale, convolve.times, good, radix2's check. No condition. -/
namespace Go.Proofs.YtpkpadepccneeaaGreatDoor
set_option linter.unusedVariables false
set_option linter.unusedSimpArgs false
open Go Go.RowKit Go.Shelf
set_option maxRecDepth 100000 in
set_option maxHeartbeats 1000000 in
theorem Scale_row (gf p g : Nat) (A : Option Addr) (c n : Nat) (xs : List Nat) (w : World) (hf : FD w gf p g) (hx : RI .u64 w A (nats xs)) (hl : xs.length = n) (h1 : 1 ≤ n) (hn : n ≤ 4096) (hg : Nat.gcd p n = 1) (hb : ∀ i, i < n → xs.getD i 0 < Mg.R) :
    Calls Tryz.prog 151 #[.pointer (some ⟨gf, 0, none⟩), .slice A n c] w fun e w' => ∃ g', e = .returned (.slice (some ⟨g', 0, none⟩) n n) ∧
      OI .u64 22 w' w.heap.size (.slice (some ⟨g', 0, none⟩) n n) (nats ((List.range n).map fun i => invN n p * xs.getD i 0 % p)) ∧ Below w.heap.size w w' := by
  have hR : p < Mg.R := by have := hf.high; simp only [Mg.R]; omega
  have hp : 0 < p := by have := hf.low; omega
  have hn2 : n < Mg.R := by simp only [Mg.R]; omega
  have C1 := Lib.hid (fInv_rd gf p g n w hf hn2 hg)
  have hi : invN n p < Mg.R := Nat.lt_of_le_of_lt (invN_le n p) hR
  have C2 := Lib.hid (fLift_rd gf p g (invN n p) w hf hi)
  have C3 := Lib.hid fun (W : World) (h : Below w.heap.size w W) (x : Nat) (hxR : x < Mg.R) => (show Rd 92 #[.pointer (some ⟨gf, 0, none⟩), .int .u64 (Mg.mform p (invN n p) : Nat), .int .u64 x] W (.int .u64 ((invN n p * x % p : Nat) : Int)) from by
    have h := fTimes_rd gf p g (Mg.mform p (invN n p)) x W (hf.below h) (Nat.lt_trans (Mg.mform_lt hp _) hR) hxR
    rw [Mg.mm_form hp hf.odd] at h
    exact h)
  have HX := Lib.hid hx
  have HBD := Lib.hid hb
  clear hf hx hb hg
  generalize Mg.mform p (invN n p) = mi at *
  generalize invN n p = iv at *
  go_enter Tryz.func151, Tryz.ntmps151
  go_wp2_with fail
  with_reducible refine C1.out.now.mono ?_
  rintro e_ w_ ⟨rfl, k1, rfl⟩
  go_wp2_with fail
  with_reducible refine (Rd.go (C2.out) _).mono ?_
  rintro e_ w_ ⟨rfl, k2, rfl⟩
  have B0 := Lib.hid (below_drewN (Below.refl w.heap.size w) (k1 + k2))
  go_wp2_with (refine wpList_makeI rfl (.tmp 17) (.tmp 17) 26 rfl w.heap.size 22 .u64 8 Tryz.underlying26 info22 (by decide) .i64 .i64 n rfl rfl (by omega) (Nat.le_refl _) ?_; intro w1 ho1 hb1 hs1; have HO1 := Lib.hid ho1; have HB1 := Lib.hid (B0.out.trans hb1); have HS1 := Lib.hid hs1; clear ho1 hb1 hs1)
  have HW0 := Lib.hid (show OF w1 w.heap.size w.heap.size n (fun i => iv * xs.getD i 0 % p) 0 by unfold OF; rw [fillN_zero]; exact HO1.out)
  clear HO1 HS1 B0
  go_loopw [21] (fun i wr => ∃ k : Nat, k ≤ n ∧ i = .int .i64 k ∧ Hid (OF wr w.heap.size w.heap.size n (fun i => iv * xs.getD i 0 % p) k) ∧ Hid (Below w.heap.size w wr)) (fun i _ => n - (intOf i).toNat)
  case atStart => exact ⟨0, by omega, rfl, HW0, HB1⟩
  case round =>
    obtain ⟨k, hk, rfl, HO, HB⟩ := hrel
    by_cases hlt : k < n
    · obtain ⟨ad, rfl, hc⟩ := RI.nat (HX.out.below HB.out) (i := k) (by omega)
      have C4 := Lib.hid (C3.out wr HB.out (xs.getD k 0) (HBD.out k hlt))
      have c0 := HO.out.cell hlt
      have f0 := HO.out.frozen k
      have HP := Lib.hid fun (q : Nat) => (HO.out.drewN q).put hlt
      have HB2 := Lib.hid fun (q : Nat) => (below_drewN HB.out q).setCell (p := ⟨w.heap.size, k, none⟩) (Nat.le_refl _) (.int .u64 ((iv * xs.getD k 0 % p : Nat) : Int))
      have hi0 : (0 : Int) ≤ (k : Int) := by omega
      have hi1 : (k : Int) < (n : Int) := by omega
      generalize hy : iv * xs.getD k 0 % p = y at *
      generalize xs.getD k 0 = x at *
      generalize (fillN (fun i => iv * xs.getD i 0 % p) n k).getD k 0 = old at *
      go_wp2_with fail
      with_reducible refine (C4.out.now).mono ?_
      rintro e w3 ⟨rfl, k3, rfl⟩
      have c1 : (wr.drewN k3).cell? ⟨w.heap.size, k, none⟩ = some (.int .u64 (old : Int)) := c0
      have f1 : (wr.drewN k3).frozen? ⟨w.heap.size, k, none⟩ = false := f0
      go_wp2_with fail
      go_roundw
      case rel => exact ⟨k + 1, by omega, by go_num, Lib.hid (HP.out k3), Lib.hid (HB2.out k3)⟩
      case measure => simp [intOf]; omega
    · have hkk : k = n := by omega
      subst hkk
      have ho := HO.out
      unfold OF at ho
      rw [fillN_full] at ho
      go_wp2_with fail
      go_ret
      exact ⟨_, rfl, ho, HB.out⟩
/-- The product place by place. -/
def mulL (p : Nat) (xs ys : List Nat) (n : Nat) : List Nat := (List.range n).map fun i => xs.getD i 0 * ys.getD i 0 % p
set_option maxRecDepth 100000 in
set_option maxHeartbeats 4000000 in
theorem times_any (gf p g : Nat) (A B : Option Addr) (c d n : Nat) (xs ys : List Nat) (w : World) (hf : FD w gf p g) (hx : RI .u64 w A (nats xs)) (hy : RI .u64 w B (nats ys)) (hl : xs.length = n) (hm : ys.length = n) (hn : n ≤ 4096) (hb : ∀ i, i < n → xs.getD i 0 < Mg.R) (hc : ∀ i, i < n → ys.getD i 0 < Mg.R) :
    Calls Tryz.prog 51 #[.pointer (some ⟨gf, 0, none⟩), .slice A n c, .slice B n d] w fun e w' => ∃ g', e = .returned (.slice (some ⟨g', 0, none⟩) n n) ∧
      OI .u64 22 w' w.heap.size (.slice (some ⟨g', 0, none⟩) n n) (nats (mulL p xs ys n)) ∧ Below w.heap.size w w' := by
  have hR : p < Mg.R := by have := hf.high; simp only [Mg.R]; omega
  have C3 := Lib.hid fun (W : World) (h : Below w.heap.size w W) (x y : Nat) (hxR : x < Mg.R) (hyR : y < Mg.R) => fMul_rd gf p g x y W (hf.below h) hxR hyR
  have HX := Lib.hid hx
  have HY := Lib.hid hy
  have HBD := Lib.hid hb
  have HCD := Lib.hid hc
  unfold mulL
  clear hf hx hy hb hc
  go_enter Tryz.func51, Tryz.ntmps51
  go_wp2_with (refine wpList_makeI rfl (.tmp 10) (.tmp 10) 26 rfl w.heap.size 22 .u64 8 Tryz.underlying26 info22 (by decide) .i64 .i64 n rfl rfl (by omega) (Nat.le_refl _) ?_; intro w1 ho1 hb1 hs1; have HO1 := Lib.hid ho1; have HB1 := Lib.hid hb1; have HS1 := Lib.hid hs1; clear ho1 hb1 hs1)
  have HW0 := Lib.hid (show OF w1 w.heap.size w.heap.size n (fun i => xs.getD i 0 * ys.getD i 0 % p) 0 by unfold OF; rw [fillN_zero]; exact HO1.out)
  clear HO1 HS1
  go_loopw [14] (fun i wr => ∃ k : Nat, k ≤ n ∧ i = .int .i64 k ∧ Hid (OF wr w.heap.size w.heap.size n (fun i => xs.getD i 0 * ys.getD i 0 % p) k) ∧ Hid (Below w.heap.size w wr)) (fun i _ => n - (intOf i).toNat)
  case atStart => exact ⟨0, by omega, rfl, HW0, HB1⟩
  case round =>
    obtain ⟨k, hk, rfl, HO, HB⟩ := hrel
    by_cases hlt : k < n
    · obtain ⟨ad, rfl, hcx⟩ := RI.nat (HX.out.below HB.out) (i := k) (by omega)
      obtain ⟨bd, rfl, hcy⟩ := RI.nat (HY.out.below HB.out) (i := k) (by omega)
      have C4 := Lib.hid (C3.out wr HB.out (xs.getD k 0) (ys.getD k 0) (HBD.out k hlt) (HCD.out k hlt))
      have c0 := HO.out.cell hlt
      have f0 := HO.out.frozen k
      have hxx := RI.nat (HX.out) (i := k) (by omega)
      have hyy := RI.nat (HY.out) (i := k) (by omega)
      have hxb : (ad.add k).block < w.heap.size := by
        obtain ⟨ad', h1, h2⟩ := hxx
        cases h1
        exact World.block_lt_of_cell? _ _ h2
      have hyb : (bd.add k).block < w.heap.size := by
        obtain ⟨ad', h1, h2⟩ := hyy
        cases h1
        exact World.block_lt_of_cell? _ _ h2
      have HP := Lib.hid fun (q : Nat) => (HO.out.drewN q).put hlt
      have HB2 := Lib.hid fun (q : Nat) => (below_drewN HB.out q).setCell (p := ⟨w.heap.size, k, none⟩) (Nat.le_refl _) (.int .u64 ((xs.getD k 0 * ys.getD k 0 % p : Nat) : Int))
      have hi0 : (0 : Int) ≤ (k : Int) := by omega
      have hi1 : (k : Int) < (n : Int) := by omega
      clear hxx hyy
      generalize hy : xs.getD k 0 * ys.getD k 0 % p = z at *
      generalize xs.getD k 0 = x at *
      generalize ys.getD k 0 = y at *
      generalize (fillN (fun i => xs.getD i 0 * ys.getD i 0 % p) n k).getD k 0 = old at *
      go_wp2_with fail
      have hS : wr.cell? (ad.add k) = some (.int .u64 (x : Int)) ∧ wr.cell? (bd.add k) = some (.int .u64 (y : Int)) := ⟨hcx, hcy⟩
      go_region_held3 (fun W' => W'.cell? (ad.add k) = some (.int .u64 (x : Int)) ∧ W'.cell? (bd.add k) = some (.int .u64 (y : Int))) (first | exact hS | exact hV | go_keep)
        ((go_at_call 96; refine (Rd.go C4.out _).mono ?_; rintro e_ w_ ⟨rfl, j1, rfl⟩; (have c1 : (wr.drewN (1 + j1)).cell? ⟨w.heap.size, k, none⟩ = some (.int .u64 (old : Int)) := c0); (have f1 : (wr.drewN (1 + j1)).frozen? ⟨w.heap.size, k, none⟩ = false := f0);
          (have hV : ((wr.drewN (1 + j1)).setCell ⟨w.heap.size, k, none⟩ (.int .u64 (z : Int))).cell? (ad.add k) = some (.int .u64 (x : Int)) ∧ ((wr.drewN (1 + j1)).setCell ⟨w.heap.size, k, none⟩ (.int .u64 (z : Int))).cell? (bd.add k) = some (.int .u64 (y : Int)) := ⟨(Fr.setCell (S := fun i => i = w.heap.size) (p := ⟨w.heap.size, k, none⟩) rfl _ _).cell hS.1 (show ¬ (ad.add k).block = w.heap.size by omega), (Fr.setCell (S := fun i => i = w.heap.size) (p := ⟨w.heap.size, k, none⟩) rfl _ _).cell hS.2 (show ¬ (bd.add k).block = w.heap.size by omega)⟩)))
      go_wp2_with fail
      go_roundw
      case rel => exact ⟨k + 1, by omega, by go_num, Lib.hid (HP.out (1 + j1)), Lib.hid (HB2.out (1 + j1))⟩
      case measure => simp [intOf]; omega
    · have hkk : k = n := by omega
      subst hkk
      have ho := HO.out
      unfold OF at ho
      rw [fillN_full] at ho
      go_wp2_with fail
      go_ret
      exact ⟨_, rfl, ho, HB.out⟩
theorem rCheck_ok (gf p g n : Nat) (A : Option Addr) (c : Nat) (xs : List Nat) (w : World) (hf : FD w gf p g) (hx : RI .u64 w A (nats xs)) (hl : xs.length = n) (h1 : 1 ≤ n) (hn : n ≤ 4096) (hd : divs p (n : Int) = true) (hb : ∀ j, j < n → xs.getD j 0 < p)
    (hfit : ∀ W, Calls Tryz.prog 145 #[.int .i64 (n : Int)] W fun e w' => e = .returned (.bool true) ∧ W = w') : Rd 89 #[.pointer (some ⟨gf, 0, none⟩), .slice A n c] w (.int .i64 0) := by
  refine Rd.of_drawn fun q => ?_
  have C1 := (show Rd 144 #[.pointer (some ⟨gf, 0, none⟩), .int .i64 (n : Int), .int .i64 4096] w (.int .i64 0) from dCheck_ok gf p g n 4096 w hf h1 hn (by omega) hd)
  have C2 := Good_yes gf p g A c xs w hf hx (by omega) (fun j hj => hb j (by omega))
  rw [hl] at C2
  have HF := Lib.hid hfit
  clear hf hx hb hd hfit
  go_enter Tryz.func89, Tryz.ntmps89
  go_wp2_with fail
  with_reducible refine (Rd.go (C1) _).mono ?_
  rintro e_ w_ ⟨rfl, k1, rfl⟩
  go_wp2_with fail
  refine (HF.out _).mono ?_
  rintro e w' ⟨rfl, rfl⟩
  go_wp2_with fail
  with_reducible refine (Rd.go (C2) _).mono ?_
  rintro e_ w_ ⟨rfl, k2, rfl⟩
  go_wp2_with fail
  go_ret
  exact ⟨rfl, drawn_le (by omega)⟩
theorem cGood_yes (gf p g n m : Nat) (A B : Option Addr) (c d : Nat) (xs ys : List Nat) (w : World) (hf : FD w gf p g) (hx : RI .u64 w A (nats xs)) (hy : RI .u64 w B (nats ys)) (hl : xs.length = n) (hm : ys.length = m) (hn : n ≤ 4096) (hm2 : m ≤ 4096) (hb : ∀ j, j < n → xs.getD j 0 < p) (hc : ∀ j, j < m → ys.getD j 0 < p) :
    Rd 48 #[.pointer (some ⟨gf, 0, none⟩), .slice A n c, .slice B m d] w (.bool true) := by
  refine Rd.of_drawn fun q => ?_
  have C1 := Good_yes gf p g A c xs w hf hx (by omega) (fun j hj => hb j (by omega))
  have C2 := Good_yes gf p g B d ys w hf hy (by omega) (fun j hj => hc j (by omega))
  rw [hl] at C1
  rw [hm] at C2
  clear hf hx hy hb hc
  go_enter Tryz.func48, Tryz.ntmps48
  go_wp2_with fail
  with_reducible refine (Rd.go (C1) _).mono ?_
  rintro e_ w_ ⟨rfl, k1, rfl⟩
  go_wp2_with fail
  with_reducible refine (Rd.go (C2) _).mono ?_
  rintro e_ w_ ⟨rfl, k2, rfl⟩
  go_wp2_with fail
  go_ret
  exact ⟨rfl, drawn_le (by omega)⟩
theorem addr_zero (a : Addr) : a.add 0 = a := by unfold Addr.add; simp
theorem Pad_rd1 (w : World) : Rd 47 #[.int .i64 1] w (.int .i64 1) := .of_same fun n => Pad_1 _
theorem bits_0 (w : World) : Rd 153 #[.int .i64 0, .int .i64 0] w (.int .i64 0) := by
  refine Rd.of_same fun q => ?_
  go_enter Tryz.func153, Tryz.ntmps153
  go_wp2_with fail
  go_ret
  exact ⟨rfl, rfl⟩
set_option maxRecDepth 100000 in
set_option maxHeartbeats 1000000 in
theorem turned_1 (A : Option Addr) (c x : Nat) (w : World) (hx : RI .u64 w A [(x : Int)]) :
    Calls Tryz.prog 95 #[.slice A 1 c] w fun e w' => ∃ g', e = .returned (.slice (some ⟨g', 0, none⟩) 1 1) ∧ OI .u64 22 w' w.heap.size (.slice (some ⟨g', 0, none⟩) 1 1) [(x : Int)] ∧ Below w.heap.size w w' := by
  have LEN := Lib.hid fun W => (show Rd 152 #[.int .u64 1] W (.int .i64 1) from .of_same fun q => (Tryz.bits_Len 1 (W.drewN q) (by decide) (by decide)).mono fun e w' ⟨h, h'⟩ => ⟨h.trans (by rw [show Lib.bitLen (1 : Int).toNat = 1 by decide]; rfl), h'.symm⟩)
  have BT := Lib.hid fun W => bits_0 W
  have HX := Lib.hid hx
  obtain ⟨ad, rfl, hc⟩ := hx 0 (by simp)
  clear hx hc
  go_enter Tryz.func95, Tryz.ntmps95
  go_wp2_with fail
  with_reducible refine (LEN.out w).now.mono ?_
  rintro e_ w_ ⟨rfl, k1, rfl⟩
  have B0 := Lib.hid (below_drewN (Below.refl w.heap.size w) k1)
  go_wp2_with (refine wpList_makeI rfl (.tmp 13) (.tmp 13) 26 rfl w.heap.size 22 .u64 8 Tryz.underlying26 info22 (by decide) .i64 .i64 1 rfl rfl (by omega) (Nat.le_refl _) ?_; intro w1 ho1 hb1 hs1; have HO1 := Lib.hid (show OI .u64 22 w1 w.heap.size (.slice (some ⟨w.heap.size, 0, none⟩) 1 1) [0] from ho1); have HB1 := Lib.hid (B0.out.trans hb1); have HS1 := Lib.hid hs1; clear ho1 hb1 hs1)
  obtain ⟨ad', h1, hc⟩ := (HX.out.below HB1.out) 0 (by simp)
  cases h1
  have c0 : w1.cell? (ad.add 0) = some (.int .u64 (x : Int)) := hc
  have c1 : w1.cell? ad = some (.int .u64 (x : Int)) := by rw [addr_zero] at c0; exact c0
  have o0 : w1.cell? ⟨w.heap.size, 0, none⟩ = some (.int .u64 0) := (show OI .u64 22 w1 w.heap.size (.slice (some ⟨w.heap.size, 0, none⟩) [(0 : Int)].length 1) [0] from HO1.out).cellAt (i := 0) (by simp)
  have f0 : w1.frozen? ⟨w.heap.size, 0, none⟩ = false := OI.frozenAt rfl HO1.out 0
  clear hc
  refine wp_loop_rounds 2 ?_
  rw [rounds_succ]
  go_wp2_with fail
  with_reducible refine (BT.out _).now.mono ?_
  rintro e_ w_ ⟨rfl, k2, rfl⟩
  have o1 : (w1.drewN k2).cell? ⟨w.heap.size, 0, none⟩ = some (.int .u64 0) := o0
  have f1 : (w1.drewN k2).frozen? ⟨w.heap.size, 0, none⟩ = false := f0
  go_wp2_with fail
  rw [rounds_succ]
  have HO2 := Lib.hid (OI.stored (n := 1) rfl (OI.drewN HO1.out k2) 0 (x : Int))
  have HB2 := Lib.hid ((below_drewN HB1.out k2).setCell (p := ⟨w.heap.size, 0, none⟩) (Nat.le_refl _) (.int .u64 (x : Int)))
  clear c0 c1 o0 f0 o1 f1
  go_wp2_with fail
  go_ret
  exact ⟨_, rfl, HO2.out, HB2.out⟩
theorem ended_no (gf : Nat) (v : Value) (w : World) : Calls Tryz.prog 94 #[.pointer (some ⟨gf, 0, none⟩), v, .bool false] w fun e w' => e = .returned v ∧ w = w' := by
  go_enter Tryz.func94, Tryz.ntmps94
  go_wp2_with fail
  go_ret
  exact ⟨rfl, rfl⟩
theorem ended_yes (gf p g : Nat) (A : Option Addr) (c n : Nat) (xs : List Nat) (w : World) (hf : FD w gf p g) (hx : RI .u64 w A (nats xs)) (hl : xs.length = n) (h1 : 1 ≤ n) (hn : n ≤ 4096) (hg : Nat.gcd p n = 1) (hb : ∀ i, i < n → xs.getD i 0 < Mg.R) :
    Calls Tryz.prog 94 #[.pointer (some ⟨gf, 0, none⟩), .slice A n c, .bool true] w fun e w' => ∃ g', e = .returned (.slice (some ⟨g', 0, none⟩) n n) ∧
      OI .u64 22 w' w.heap.size (.slice (some ⟨g', 0, none⟩) n n) (nats ((List.range n).map fun i => invN n p * xs.getD i 0 % p)) ∧ Below w.heap.size w w' := by
  have C := Lib.hid (Scale_row gf p g A c n xs w hf hx hl h1 hn hg hb)
  clear hf hx hg hb
  go_enter Tryz.func94, Tryz.ntmps94
  go_wp2_with fail
  with_reducible refine (C.out).mono ?_
  rintro e w' ⟨g', rfl, ho, hb⟩
  have HO := Lib.hid ho
  have HB := Lib.hid hb
  clear ho hb
  go_wp2_with fail
  go_ret
  exact ⟨g', rfl, HO.out, HB.out⟩
theorem fits_1 (W : World) : Calls Tryz.prog 145 #[.int .i64 ((1 : Nat) : Int)] W fun e w' => e = .returned (.bool true) ∧ W = w' := rFits_1 W
theorem one_lt {x b : Nat} (h : x < b) : ∀ j, j < 1 → [x].getD j 0 < b := fun j hj => by
  have : j = 0 := by omega
  subst this
  exact h
theorem nats1 (x : Nat) : nats [x] = [(x : Int)] := rfl
set_option maxRecDepth 100000 in
set_option maxHeartbeats 1000000 in
theorem Down_1 (gf p g : Nat) (ad : Addr) (c x : Nat) (w : World) (hf : FD w gf p g) (hg : g < Mg.R) (hx : RI .u64 w (some ad) [(x : Int)]) (hxp : x < p) :
    Calls Tryz.prog 49 #[.pointer (some ⟨gf, 0, none⟩), .slice (some ad) 1 c, .bool false] w fun e w' => ∃ g', e = .returned (.tuple #[.slice (some ⟨g', 0, none⟩) 1 1, .int .i64 0]) ∧ OI .u64 22 w' w.heap.size (.slice (some ⟨g', 0, none⟩) 1 1) [(x : Int)] ∧ Below w.heap.size w w' := by
  have hp : 0 < p := by have := hf.low; omega
  have hR : p < Mg.R := by have := hf.high; simp only [Mg.R]; omega
  have hd : divs p ((1 : Nat) : Int) = true := divs_iff.2 ⟨by decide, by simp [Nat.mod_one]⟩
  have C1 := rCheck_ok gf p g 1 (some ad) c [x] w hf hx rfl (by decide) (by decide) hd (one_lt hxp) fits_1
  have C2 := Lib.hid fun (W : World) (h : Below w.heap.size w W) => (show Calls Tryz.prog 90 #[.pointer (some ⟨gf, 0, none⟩), .int .i64 1, .bool false] W _ from Lifted_of gf p g 1 (g ^ ((p - 1) / 1) % p) false W (hf.below h) (by decide) (by decide) (Root_fwd gf p g 1 W (hf.below h) hg (by decide) (by decide) hd) (Nat.lt_trans (Nat.mod_lt _ hp) hR))
  have C3 := Lib.hid fun (W : World) (h : Below w.heap.size w W) => (show Calls Tryz.prog 65 #[.slice (some ad) 1 c] W _ from Clone65_any ad c [(x : Int)] W (hx.below h) (by simp))
  have HE := Lib.hid fun v W => ended_no gf v W
  clear hf hx hd
  go_enter Tryz.func49, Tryz.ntmps49
  go_wp2_with fail
  with_reducible refine C1.now.mono ?_
  rintro e_ w_ ⟨rfl, k1, rfl⟩
  have B1 := Lib.hid (below_drewN (Below.refl w.heap.size w) k1)
  go_wp2_with fail
  refine (C2.out _ B1.out).mono ?_
  rintro e w2 ⟨gt, ct, rfl, _, hb2⟩
  have B2 := Lib.hid (below_then B1.out B1.out.size hb2)
  clear hb2
  go_wp2_with fail
  refine (C3.out _ B2.out).mono ?_
  rintro e w3 ⟨v, rfl, ho3, hb3⟩
  obtain ⟨A3, c3, rfl, hr3⟩ := ho3.form
  have B3 := Lib.hid (below_then B2.out B2.out.size hb3)
  have CT := Lib.hid (turned_1 A3 c3 x w3 hr3)
  clear ho3 hb3 hr3
  go_wp2_with fail
  refine wp_loop_rounds 1 ?_
  rw [rounds_succ]
  go_wp2_with fail
  refine CT.out.mono ?_
  rintro e w4 ⟨g4, rfl, ho4, hb4⟩
  have HO := Lib.hid (ho4.mono B3.out.size)
  have B4 := Lib.hid (below_then B3.out B3.out.size hb4)
  clear ho4 hb4
  go_wp2_with fail
  refine (HE.out _ _).mono ?_
  rintro e w5 ⟨rfl, rfl⟩
  go_wp2_with fail
  go_ret2
  exact ⟨g4, rfl, HO.out, B4.out⟩
set_option maxRecDepth 100000 in
set_option maxHeartbeats 1000000 in
theorem Up_1 (gf p g : Nat) (ad : Addr) (c x : Nat) (w : World) (hf : FD w gf p g) (hg : g < Mg.R) (hx : RI .u64 w (some ad) [(x : Int)]) (hxp : x < p) (hone : g ^ (p - 1) % p = 1) :
    Calls Tryz.prog 50 #[.pointer (some ⟨gf, 0, none⟩), .slice (some ad) 1 c, .bool true] w fun e w' => ∃ g', e = .returned (.tuple #[.slice (some ⟨g', 0, none⟩) 1 1, .int .i64 0]) ∧ OI .u64 22 w' w.heap.size (.slice (some ⟨g', 0, none⟩) 1 1) [(x : Int)] ∧ Below w.heap.size w w' := by
  have hp : 1 < p := by have := hf.low; omega
  have hR : p < Mg.R := by have := hf.high; simp only [Mg.R]; omega
  have hd : divs p ((1 : Nat) : Int) = true := divs_iff.2 ⟨by decide, by simp [Nat.mod_one]⟩
  have hi1 : invN 1 p = 1 := invN_eq ⟨hp, ⟨0, by omega⟩⟩
  have C1 := rCheck_ok gf p g 1 (some ad) c [x] w hf hx rfl (by decide) (by decide) hd (one_lt hxp) fits_1
  have C2 := Lib.hid fun (W : World) (h : Below w.heap.size w W) => (show Calls Tryz.prog 90 #[.pointer (some ⟨gf, 0, none⟩), .int .i64 1, .bool true] W _ from Lifted_of gf p g 1 1 true W (hf.below h) (by decide) (by decide) (by
    have h := Root_inv gf p g 1 W (hf.below h) hg (by decide) (by decide) hd (by rw [Nat.div_one, hone, Nat.gcd_one_right])
    rw [Nat.div_one, hone, hi1] at h
    exact h) (by decide))
  have CT := Lib.hid fun (W : World) (h : Below w.heap.size w W) => turned_1 (some ad) c x W (hx.below h)
  have HE := Lib.hid fun (W : World) (h : Below w.heap.size w W) (B : Option Addr) (d : Nat) (hr : RI .u64 W B [(x : Int)]) => (show Calls Tryz.prog 94 #[.pointer (some ⟨gf, 0, none⟩), .slice B 1 d, .bool true] W (fun e w' => ∃ g', e = .returned (.slice (some ⟨g', 0, none⟩) 1 1) ∧ OI .u64 22 w' W.heap.size (.slice (some ⟨g', 0, none⟩) 1 1) [(x : Int)] ∧ Below W.heap.size W w') from by
    have h := ended_yes gf p g B d 1 [x] W (hf.below h) hr rfl (by decide) (by decide) (Nat.gcd_one_right _) (one_lt (Nat.lt_trans hxp hR))
    rw [hi1, show (List.range 1).map (fun i => 1 * [x].getD i 0 % p) = [x] by simp [List.range_succ, Nat.mod_eq_of_lt hxp]] at h
    exact h)
  clear hf hx hd
  go_enter Tryz.func50, Tryz.ntmps50
  go_wp2_with fail
  with_reducible refine C1.now.mono ?_
  rintro e_ w_ ⟨rfl, k1, rfl⟩
  have B1 := Lib.hid (below_drewN (Below.refl w.heap.size w) k1)
  go_wp2_with fail
  refine (C2.out _ B1.out).mono ?_
  rintro e w2 ⟨gt, ct, rfl, _, hb2⟩
  have B2 := Lib.hid (below_then B1.out B1.out.size hb2)
  clear hb2
  go_wp2_with fail
  refine (CT.out _ B2.out).mono ?_
  rintro e w3 ⟨g3, rfl, ho3, hb3⟩
  have B3 := Lib.hid (below_then B2.out B2.out.size hb3)
  obtain ⟨A3, c3, h3, hr3⟩ := ho3.form
  have hr3' : RI .u64 w3 (some ⟨g3, 0, none⟩) [(x : Int)] := by
    injection h3 with h3 _ _
    rw [h3]; exact hr3
  have HEE := Lib.hid (HE.out w3 B3.out _ 1 hr3')
  clear ho3 hb3 hr3 h3 hr3'
  go_wp2_with fail
  refine wp_loop_rounds 1 ?_
  rw [rounds_succ]
  go_wp2_with fail
  refine HEE.out.mono ?_
  rintro e w4 ⟨g4, rfl, ho4, hb4⟩
  have HO := Lib.hid (ho4.mono B3.out.size)
  have B4 := Lib.hid (below_then B3.out B3.out.size hb4)
  clear ho4 hb4
  go_wp2_with fail
  go_ret2
  exact ⟨g4, rfl, HO.out, B4.out⟩
end Go.Proofs.YtpkpadepccneeaaGreatDoor
