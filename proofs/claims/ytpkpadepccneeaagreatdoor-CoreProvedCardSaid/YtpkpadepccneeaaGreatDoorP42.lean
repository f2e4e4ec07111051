/- The walks of twiddle's Root, Table and Lifted, there and back. No condition. -/
import Derived.Test.YtpkpadepccneeaaGreatDoorP33
import Derived.Test.YtpkpadepccneeaaGreatDoorP38
namespace Go.Proofs.YtpkpadepccneeaaGreatDoor
set_option linter.unusedVariables false
set_option linter.unusedSimpArgs false
open Go Go.RowKit Go.Shelf
theorem Root_inv (gf p g n : Nat) (w : World) (hf : FD w gf p g) (hg : g < Mg.R) (h1 : 1 ≤ n) (h2 : n ≤ 4096) (hd : divs p (n : Int) = true) (hc : Nat.gcd p (g ^ ((p - 1) / n) % p) = 1) :
    Rd 209 #[.pointer (some ⟨gf, 0, none⟩), .int .i64 n, .bool true] w (.tuple #[.int .u64 ((invN (g ^ ((p - 1) / n) % p) p : Nat) : Int), .int .i64 0]) := by
  refine Rd.of_drawn fun q => ?_
  have C := fRoot_rd gf p g n w hf hg (by omega) hd
  have C2 := fInv_rd gf p g (g ^ ((p - 1) / n) % p) w hf (Nat.lt_trans (Nat.mod_lt _ (by have := hf.low; omega)) (by have := hf.high; simp only [Mg.R]; omega)) hc
  have g1 : decide ((n : Int) < 1) = false := decide_eq_false (by omega)
  have g2 : decide ((4096 : Int) < (n : Int)) = false := decide_eq_false (by omega)
  have g3 : decide (4096 < n) = false := decide_eq_false (by omega)
  have g4 : decide (n < 1) = false := decide_eq_false (by omega)
  clear hf hd hc
  generalize g ^ ((p - 1) / n) % p = r at *
  generalize invN r p = s at *
  go_enter Tryz.func209, Tryz.ntmps209
  go_wp2_with fail
  with_reducible refine (Rd.go (C) _).mono ?_
  rintro e_ w_ ⟨rfl, k1, rfl⟩
  go_wp2_with fail
  with_reducible refine (Rd.go (C2) _).mono ?_
  rintro e_ w_ ⟨rfl, k2, rfl⟩
  go_wp2_with fail
  go_ret2
  exact ⟨rfl, drawn_le (by omega)⟩
set_option maxHeartbeats 1000000 in
theorem Table_of (gf p g n r : Nat) (bi : Bool) (w : World) (hf : FD w gf p g) (h1 : 1 ≤ n) (h2 : n ≤ 4096) (C : Rd 209 #[.pointer (some ⟨gf, 0, none⟩), .int .i64 n, .bool bi] w (.tuple #[.int .u64 (r : Int), .int .i64 0])) (hrR : r < Mg.R) :
    Calls Tryz.prog 146 #[.pointer (some ⟨gf, 0, none⟩), .int .i64 n, .bool bi] w fun e w' => ∃ v, e = .returned (.tuple #[v, .int .i64 0]) ∧ OI .u64 22 w' w.heap.size v (nats ((List.range n).map fun i => r ^ i % p)) ∧ Below w.heap.size w w' := by
  have HF := Lib.hid hf
  have hR : p < Mg.R := by have := hf.high; simp only [Mg.R]; omega
  have hp : 0 < p := by have := hf.low; omega
  clear hf
  go_enter Tryz.func146, Tryz.ntmps146
  go_wp2_with fail
  with_reducible refine C.now.mono ?_
  rintro e_ w_ ⟨rfl, k1, rfl⟩
  have C2 := fLift_rd gf p g r w HF.out hrR
  go_wp2_with fail
  with_reducible refine (Rd.go (C2) _).mono ?_
  rintro e_ w_ ⟨rfl, k2, rfl⟩
  go_wp2_with (refine wpList_makeI rfl (.tmp 27) (.tmp 27) 26 rfl w.heap.size 22 .u64 8 Tryz.underlying26 info22 (by decide) .i64 .i64 n rfl rfl (by omega) (Nat.le_refl _) ?_; intro w1 ho1 hb1 hs1; have HO1 := Lib.hid ho1; have HB1 := Lib.hid hb1; have HS1 := Lib.hid hs1; clear ho1 hb1 hs1)
  have HB0 := Lib.hid ((below_drewN (Below.refl w.heap.size w) (k1 + k2)).trans HB1.out)
  have HW0 := Lib.hid (show OF w1 w.heap.size w.heap.size n (fun i => r ^ i % p) 0 by unfold OF; rw [fillN_zero]; exact HO1.out)
  have HSZ := Lib.hid (show w.heap.size < w1.heap.size from HS1.out)
  clear HO1 HB1 HS1
  have h1p : 1 % p = 1 := Nat.mod_eq_of_lt (by have := HF.out.low; omega)
  go_loopw [12, 31] (fun acc i wr => ∃ k : Nat, k ≤ n ∧ i = .int .i64 k ∧ acc = .int .u64 ((r ^ k % p : Nat) : Int) ∧ Hid (OF wr w.heap.size w.heap.size n (fun i => r ^ i % p) k) ∧ Hid (Below w.heap.size w wr)) (fun _ i _ => n - (intOf i).toNat)
  case atStart => exact ⟨0, by omega, rfl, by rw [Nat.pow_zero, h1p]; rfl, HW0, HB0⟩
  case round =>
    obtain ⟨k, hk, rfl, rfl, HO, HB⟩ := hrel
    by_cases hlt : k < n
    · have c0 := HO.out.cell hlt
      have f0 := HO.out.frozen k
      have HP := Lib.hid (HO.out.put hlt)
      have HB2 := Lib.hid (HB.out.setCell (p := ⟨w.heap.size, k, none⟩) (Nat.le_refl _) (.int .u64 ((r ^ k % p : Nat) : Int)))
      have HF2 := Lib.hid (HF.out.below HB2.out)
      have C3 := fTimes_rd gf p g (Mg.mform p r) (r ^ k % p) (wr.setCell ⟨w.heap.size, k, none⟩ (.int .u64 ((r ^ k % p : Nat) : Int))) HF2.out (Nat.lt_trans (Mg.mform_lt hp r) hR) (Nat.lt_trans (Nat.mod_lt _ hp) hR)
      rw [Mg.mm_form hp HF.out.odd, Nat.mul_mod_mod, ← Nat.pow_succ'] at C3
      have hi0 : (0 : Int) ≤ (k : Int) := by omega
      have hi1 : (k : Int) < (n : Int) := by omega
      have C4 := Lib.hid C3
      clear C3
      generalize hz : r ^ k % p = z at *
      generalize hz2 : r ^ (k + 1) % p = z2 at *
      generalize Mg.mform p r = mr at *
      generalize (fillN (fun i => r ^ i % p) n k).getD k 0 = old at *
      go_wp2_with fail
      with_reducible refine (C4.out.now).mono ?_
      rintro e w3 ⟨rfl, k3, rfl⟩
      go_wp2_with fail
      go_roundw
      case rel => exact ⟨k + 1, by omega, by go_num, by rw [hz2], Lib.hid (HP.out.drewN k3), Lib.hid (below_drewN HB2.out k3)⟩
      case measure => simp [intOf]; omega
    · have hkk : k = n := by omega
      subst hkk
      go_wp2_with fail
      go_ret2
      refine ⟨_, rfl, ?_, HB.out⟩
      have := HO.out
      unfold OF at this
      rw [fillN_full] at this
      exact this
set_option maxHeartbeats 1000000 in
theorem Lifted_of (gf p g n r : Nat) (bi : Bool) (w : World) (hf : FD w gf p g) (h1 : 1 ≤ n) (h2 : n ≤ 4096) (C0 : Rd 209 #[.pointer (some ⟨gf, 0, none⟩), .int .i64 n, .bool bi] w (.tuple #[.int .u64 (r : Int), .int .i64 0])) (hrR : r < Mg.R) :
    Calls Tryz.prog 90 #[.pointer (some ⟨gf, 0, none⟩), .int .i64 n, .bool bi] w fun e w' => ∃ g' c, e = .returned (.tuple #[.slice (some ⟨g', 0, none⟩) n c, .int .i64 0]) ∧ OI .u64 22 w' w.heap.size (.slice (some ⟨g', 0, none⟩) n c) (nats ((List.range n).map fun i => Mg.mform p (r ^ i % p))) ∧ Below w.heap.size w w' := by
  have C := Table_of gf p g n r bi w hf h1 h2 C0 hrR
  have HF := Lib.hid hf
  have hR : p < Mg.R := by have := hf.high; simp only [Mg.R]; omega
  have hp : 0 < p := by have := hf.low; omega
  clear hf C0
  go_enter Tryz.func90, Tryz.ntmps90
  go_wp2_with fail
  with_reducible refine (C).mono ?_
  rintro e w1 ⟨v, rfl, ho, hb⟩
  obtain ⟨A, c, rfl, _⟩ := ho.form
  obtain ⟨g', rfl⟩ := ho.some (i := 0) (by rw [nats_len]; simp; omega)
  have hl : (nats ((List.range n).map fun i => r ^ i % p)).length = n := by rw [nats_len]; simp
  rw [hl] at ho ⊢
  have HW0 := Lib.hid (show OM w1 w.heap.size g' n c (fun i => Mg.mform p (r ^ i % p)) (fun i => r ^ i % p) 0 by unfold OM; rw [mixN_zero]; exact ho)
  have HB0 := Lib.hid hb
  have hgB : w.heap.size ≤ g' := ho.base.1
  clear ho hb hl
  go_wp2_with fail
  go_loopw [21] (fun i wr => ∃ k : Nat, k ≤ n ∧ i = .int .i64 k ∧ Hid (OM wr w.heap.size g' n c (fun i => Mg.mform p (r ^ i % p)) (fun i => r ^ i % p) k) ∧ Hid (Below w.heap.size w wr)) (fun i _ => n - (intOf i).toNat)
  case atStart => exact ⟨0, by omega, rfl, HW0, HB0⟩
  case round =>
    obtain ⟨k, hk, rfl, HO, HB⟩ := hrel
    by_cases hlt : k < n
    · have c0 := HO.out.cell hlt
      rw [if_neg (Nat.lt_irrefl k)] at c0
      have f0 := HO.out.frozen k
      have HP := Lib.hid (HO.out.put hlt)
      have HF2 := Lib.hid (HF.out.below HB.out)
      have C3 := fLift_rd gf p g (r ^ k % p) wr HF2.out (Nat.lt_trans (Nat.mod_lt _ hp) hR)
      have HB2 := Lib.hid (HB.out.setCell (p := ⟨g', k, none⟩) hgB (.int .u64 ((Mg.mform p (r ^ k % p) : Nat) : Int)))
      have hi0 : (0 : Int) ≤ (k : Int) := by omega
      have hi1 : (k : Int) < (n : Int) := by omega
      generalize Mg.mform p (r ^ k % p) = z2 at *
      generalize r ^ k % p = z at *
      have C4 := Lib.hid C3
      clear C3
      go_wp2_with fail
      with_reducible refine (C4.out.now).mono ?_
      rintro e w3 ⟨rfl, k3, rfl⟩
      go_wp2_with fail
      go_roundw
      case rel => exact ⟨k + 1, by omega, by go_num, Lib.hid (HP.out.drewN k3), Lib.hid (below_drewN HB2.out k3)⟩
      case measure => simp [intOf]; omega
    · have hkk : k = n := by omega
      subst hkk
      go_wp2_with fail
      go_ret2
      refine ⟨_, _, rfl, ?_, HB.out⟩
      have := HO.out
      unfold OM at this
      rw [mixN_full] at this
      exact this
end Go.Proofs.YtpkpadepccneeaaGreatDoor
