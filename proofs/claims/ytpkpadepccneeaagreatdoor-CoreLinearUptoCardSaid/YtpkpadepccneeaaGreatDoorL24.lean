/- The walks of dft.Good where all are good, twiddle's Root, Table and Lifted on the way there, dft.sums. No condition. -/
import Derived.Test.YtpkpadepccneeaaGreatDoorL14
import Derived.Test.YtpkpadepccneeaaGreatDoorL10
import Derived.Deep.RegionHeld3
namespace Go.Proofs.YtpkpadepccneeaaGreatDoor
set_option linter.unusedVariables false
set_option linter.unusedSimpArgs false
open Go Go.RowKit Go.Shelf
/-- Natural numbers as a list of the program's. -/
def nats (xs : List Nat) : List Int := xs.map Int.ofNat
theorem nats_len (xs : List Nat) : (nats xs).length = xs.length := List.length_map ..
theorem nats_get (xs : List Nat) (i : Nat) : (nats xs).getD i 0 = ((xs.getD i 0 : Nat) : Int) := by
  unfold nats
  rw [List.getD_eq_getElem?_getD, List.getD_eq_getElem?_getD, List.getElem?_map]
  cases xs[i]? <;> rfl
theorem RI.nat {w : World} {A : Option Addr} {xs : List Nat} (h : RI .u64 w A (nats xs)) {i : Nat} (hi : i < xs.length) : ∃ ad, A = some ad ∧ w.cell? (ad.add i) = some (.int .u64 ((xs.getD i 0 : Nat) : Int)) := by
  obtain ⟨ad, h1, h2⟩ := h i (by rw [nats_len]; exact hi)
  rw [nats_get] at h2
  exact ⟨ad, h1, h2⟩
set_option maxHeartbeats 1000000 in
theorem Good_yes (gf p g : Nat) (A : Option Addr) (c : Nat) (xs : List Nat) (w : World) (hf : FD w gf p g) (hr : RI .u64 w A (nats xs)) (hm : xs.length ≤ 9223372036854775807) (hb : ∀ j, j < xs.length → xs.getD j 0 < p) :
    Rd 88 #[.pointer (some ⟨gf, 0, none⟩), .slice A xs.length c] w (.bool true) := by
  refine Rd.of_drawn fun q => ?_
  have HR := Lib.hid hr
  have HB := Lib.hid hb
  have HF := Lib.hid hf
  clear hr hb hf
  go_enter Tryz.func88, Tryz.ntmps88
  go_wp2_with fail
  go_loopw [9] (fun i wr => ∃ k m : Nat, k ≤ xs.length ∧ i = .int .i64 k ∧ wr = w.drewN m ∧ q ≤ m) (fun i _ => xs.length - (intOf i).toNat)
  case atStart => exact ⟨0, q, by omega, rfl, rfl, by omega⟩
  case round =>
    obtain ⟨k, m, hk, rfl, rfl, hqm⟩ := hrel
    by_cases hlt : k < xs.length
    · obtain ⟨ad, rfl, hc⟩ := RI.nat (HR.out.drewN m) hlt
      have hd : decide (xs.getD k 0 < p) = true := decide_eq_true (HB.out k hlt)
      have C := fGood_rd gf p g (xs.getD k 0) w HF.out
      rw [hd] at C
      have hi0 : (0 : Int) ≤ (k : Int) := by omega
      have hi1 : (k : Int) < (xs.length : Int) := by omega
      clear hd
      generalize xs.getD k 0 = x at *
      go_wp2_with fail
      with_reducible refine (Rd.go (C) _).mono ?_
      rintro e_ w_ ⟨rfl, k1, rfl⟩
      go_wp2_with fail
      go_roundw
      case rel => exact ⟨k + 1, _, by omega, by go_num, rfl, by omega⟩
      case measure => simp [intOf]; omega
    · have hkk : k = xs.length := by omega
      subst hkk
      go_wp2_with fail
      go_ret
      exact ⟨rfl, drawn_le (by omega)⟩
/-- The first i places filled. -/
def fillN (f : Nat → Nat) (n i : Nat) : List Nat := (List.range n).map fun j => if j < i then f j else 0
theorem fillN_len (f : Nat → Nat) (n i : Nat) : (fillN f n i).length = n := by simp [fillN]
theorem fillN_zero (f : Nat → Nat) (n : Nat) : nats (fillN f n 0) = List.replicate n 0 := by
  apply List.ext_getElem?
  intro j
  by_cases h : j < n
  · simp [nats, fillN, h]
  · simp [nats, fillN, h]
theorem fillN_set (f : Nat → Nat) (n i : Nat) (hi : i < n) : (nats (fillN f n i)).set i (f i : Nat) = nats (fillN f n (i + 1)) := by
  apply List.ext_getElem?
  intro j
  rw [List.getElem?_set]
  by_cases h : j < n
  · by_cases e : i = j
    · subst e
      simp [nats, fillN, h]
    · have : (j < i + 1) = (j < i) := by apply propext; omega
      simp [nats, fillN, h, e, this]
  · have : ¬ i = j := by omega
    simp [nats, fillN, h, this]
theorem fillN_full (f : Nat → Nat) (n : Nat) : fillN f n n = (List.range n).map f := by
  unfold fillN
  apply List.map_congr_left
  intro j hj
  rw [if_pos (List.mem_range.1 hj)]
/-- An own row of n numbers, its first i places filled. -/
def OF (w : World) (B g n : Nat) (f : Nat → Nat) (i : Nat) : Prop := OI .u64 22 w B (.slice (some ⟨g, 0, none⟩) n n) (nats (fillN f n i))
theorem OF.cell {w : World} {B g n : Nat} {f : Nat → Nat} {i : Nat} (h : OF w B g n f i) {k : Nat} (hk : k < n) : w.cell? ⟨g, k, none⟩ = some (.int .u64 (((fillN f n i).getD k 0 : Nat) : Int)) := by
  have hl : (nats (fillN f n i)).length = n := by rw [nats_len, fillN_len]
  have := (show OI .u64 22 w B (.slice (some ⟨g, 0, none⟩) (nats (fillN f n i)).length n) (nats (fillN f n i)) by rw [hl]; exact h).cellAt (i := k) (by rw [hl]; exact hk)
  rw [nats_get] at this
  exact this
theorem OF.frozen {w : World} {B g n : Nat} {f : Nat → Nat} {i : Nat} (h : OF w B g n f i) (k : Nat) : w.frozen? ⟨g, k, none⟩ = false :=
  OI.frozenAt (by rw [nats_len, fillN_len]) h k
theorem OF.put {w : World} {B g n : Nat} {f : Nat → Nat} {i : Nat} (h : OF w B g n f i) (hi : i < n) : OF (w.setCell ⟨g, i, none⟩ (.int .u64 (f i : Nat))) B g n f (i + 1) := by
  have := OI.stored (by rw [nats_len, fillN_len]) h i (f i : Nat)
  rw [fillN_set f n i hi] at this
  exact this
theorem OF.below {w w1 : World} {B g n : Nat} {f : Nat → Nat} {i : Nat} (h : OF w B g n f i) (hb : Below w.heap.size w w1) : OF w1 B g n f i := OI.below h hb
theorem OF.drewN {w : World} {B g n : Nat} {f : Nat → Nat} {i : Nat} (h : OF w B g n f i) (m : Nat) : OF (w.drewN m) B g n f i := h
theorem Root_fwd (gf p g n : Nat) (w : World) (hf : FD w gf p g) (hg : g < Mg.R) (h1 : 1 ≤ n) (h2 : n ≤ 4096) (hd : divs p (n : Int) = true) :
    Rd 209 #[.pointer (some ⟨gf, 0, none⟩), .int .i64 n, .bool false] w (.tuple #[.int .u64 ((g ^ ((p - 1) / n) % p : Nat) : Int), .int .i64 0]) := by
  refine Rd.of_drawn fun q => ?_
  have C := fRoot_rd gf p g n w hf hg (by omega) hd
  have g1 : decide ((n : Int) < 1) = false := decide_eq_false (by omega)
  have g2 : decide ((4096 : Int) < (n : Int)) = false := decide_eq_false (by omega)
  have g3 : decide (4096 < n) = false := decide_eq_false (by omega)
  have g4 : decide (n < 1) = false := decide_eq_false (by omega)
  clear hf hd
  generalize g ^ ((p - 1) / n) % p = r at *
  go_enter Tryz.func209, Tryz.ntmps209
  go_wp2_with fail
  with_reducible refine (Rd.go (C) _).mono ?_
  rintro e_ w_ ⟨rfl, k1, rfl⟩
  go_wp2_with fail
  go_ret2
  exact ⟨rfl, drawn_le (by omega)⟩
set_option maxHeartbeats 1000000 in
theorem Table_fwd (gf p g n r : Nat) (w : World) (hf : FD w gf p g) (hg : g < Mg.R) (h1 : 1 ≤ n) (h2 : n ≤ 4096) (hd : divs p (n : Int) = true) (hr : g ^ ((p - 1) / n) % p = r) :
    Calls Tryz.prog 146 #[.pointer (some ⟨gf, 0, none⟩), .int .i64 n, .bool false] w fun e w' => ∃ v, e = .returned (.tuple #[v, .int .i64 0]) ∧ OI .u64 22 w' w.heap.size v (nats ((List.range n).map fun i => r ^ i % p)) ∧ Below w.heap.size w w' := by
  have C := Root_fwd gf p g n w hf hg h1 h2 hd
  rw [hr] at C
  have HF := Lib.hid hf
  have hR : p < Mg.R := by have := hf.high; simp only [Mg.R]; omega
  have hp : 0 < p := by have := hf.low; omega
  have hrR : r < Mg.R := by rw [← hr]; exact Nat.lt_trans (Nat.mod_lt _ hp) hR
  have HD := Lib.hid hd
  clear hf hd hr
  go_enter Tryz.func146, Tryz.ntmps146
  go_wp2_with fail
  with_reducible refine C.now.mono ?_
  rintro e_ w_ ⟨rfl, k1, rfl⟩
  have C2 := fLift_rd gf p g r w HF.out hrR
  go_wp2_with fail
  with_reducible refine (Rd.go (C2) _).mono ?_
  rintro e_ w_ ⟨rfl, k2, rfl⟩
  go_wp2_with (refine wpList_makeI rfl (.tmp 27) (.tmp 27) 26 rfl w.heap.size 22 .u64 8 Tryz.underlying26 info22 (by decide) .i64 .i64 n rfl rfl (by omega) (Nat.le_refl _) ?_; intro w1 ho1 hb1 hs1; have HO1 := Lib.hid ho1; have HB1 := Lib.hid hb1; have HS1 := Lib.hid hs1; clear ho1 hb1 hs1)
  have HB0 := Lib.hid ((below_drewN (Below.refl w.heap.size w) (k1 + k2)).trans HB1.out)
  have HW0 := Lib.hid (show OF w1 w.heap.size w.heap.size n (fun i => r ^ i % p) 0 by unfold OF; rw [fillN_zero]; exact HO1.out)
  have HSZ := Lib.hid (show w.heap.size < w1.heap.size from HS1.out)
  clear HO1 HB1 HS1
  have h1p : 1 % p = 1 := Nat.mod_eq_of_lt (by have := HF.out.low; omega)
  go_loopw [12, 31] (fun acc i wr => ∃ k : Nat, k ≤ n ∧ i = .int .i64 k ∧ acc = .int .u64 ((r ^ k % p : Nat) : Int) ∧ Hid (OF wr w.heap.size w.heap.size n (fun i => r ^ i % p) k) ∧ Hid (Below w.heap.size w wr)) (fun _ i _ => n - (intOf i).toNat)
  case atStart => exact ⟨0, by omega, rfl, by rw [Nat.pow_zero, h1p]; rfl, HW0, HB0⟩
  case round =>
    obtain ⟨k, hk, rfl, rfl, HO, HB⟩ := hrel
    by_cases hlt : k < n
    · have c0 := HO.out.cell hlt
      have f0 := HO.out.frozen k
      have HP := Lib.hid (HO.out.put hlt)
      have HB2 := Lib.hid (HB.out.setCell (p := ⟨w.heap.size, k, none⟩) (Nat.le_refl _) (.int .u64 ((r ^ k % p : Nat) : Int)))
      have HF2 := Lib.hid (HF.out.below HB2.out)
      have C3 := fTimes_rd gf p g (Mg.mform p r) (r ^ k % p) (wr.setCell ⟨w.heap.size, k, none⟩ (.int .u64 ((r ^ k % p : Nat) : Int))) HF2.out (Nat.lt_trans (Mg.mform_lt hp r) hR) (Nat.lt_trans (Nat.mod_lt _ hp) hR)
      rw [Mg.mm_form hp HF.out.odd, Nat.mul_mod_mod, ← Nat.pow_succ'] at C3
      have hi0 : (0 : Int) ≤ (k : Int) := by omega
      have hi1 : (k : Int) < (n : Int) := by omega
      have C4 := Lib.hid C3
      clear C3
      generalize hz : r ^ k % p = z at *
      generalize hz2 : r ^ (k + 1) % p = z2 at *
      generalize Mg.mform p r = mr at *
      generalize (fillN (fun i => r ^ i % p) n k).getD k 0 = old at *
      go_wp2_with fail
      with_reducible refine (C4.out.now).mono ?_
      rintro e w3 ⟨rfl, k3, rfl⟩
      go_wp2_with fail
      go_roundw
      case rel => exact ⟨k + 1, by omega, by go_num, by rw [hz2], Lib.hid (HP.out.drewN k3), Lib.hid (below_drewN HB2.out k3)⟩
      case measure => simp [intOf]; omega
    · have hkk : k = n := by omega
      subst hkk
      go_wp2_with fail
      go_ret2
      refine ⟨_, rfl, ?_, HB.out⟩
      have := HO.out
      unfold OF at this
      rw [fillN_full] at this
      exact this
/-- A row whose first i places are turned. -/
def mixN (f h : Nat → Nat) (n i : Nat) : List Nat := (List.range n).map fun j => if j < i then f j else h j
theorem mixN_len (f h : Nat → Nat) (n i : Nat) : (mixN f h n i).length = n := by simp [mixN]
theorem mixN_zero (f h : Nat → Nat) (n : Nat) : mixN f h n 0 = (List.range n).map h := by simp [mixN]
theorem mixN_full (f h : Nat → Nat) (n : Nat) : mixN f h n n = (List.range n).map f := by
  unfold mixN
  apply List.map_congr_left
  intro j hj
  rw [if_pos (List.mem_range.1 hj)]
theorem mixN_get (f h : Nat → Nat) (n i k : Nat) (hk : k < n) : (mixN f h n i).getD k 0 = if k < i then f k else h k := by
  simp [mixN, List.getD_eq_getElem?_getD, hk]
theorem mixN_set (f h : Nat → Nat) (n i : Nat) (hi : i < n) : (nats (mixN f h n i)).set i (f i : Nat) = nats (mixN f h n (i + 1)) := by
  apply List.ext_getElem?
  intro j
  rw [List.getElem?_set]
  by_cases hj : j < n
  · by_cases e : i = j
    · subst e
      simp [nats, mixN, hj]
    · have : (j < i + 1) = (j < i) := by apply propext; omega
      simp [nats, mixN, hj, e, this]
  · have : ¬ i = j := by omega
    simp [nats, mixN, hj, this]
def OM (w : World) (B g n c : Nat) (f h : Nat → Nat) (i : Nat) : Prop := OI .u64 22 w B (.slice (some ⟨g, 0, none⟩) n c) (nats (mixN f h n i))
theorem OM.cell {w : World} {B g n c : Nat} {f h : Nat → Nat} {i : Nat} (ho : OM w B g n c f h i) {k : Nat} (hk : k < n) : w.cell? ⟨g, k, none⟩ = some (.int .u64 (((if k < i then f k else h k : Nat)) : Int)) := by
  have hl : (nats (mixN f h n i)).length = n := by rw [nats_len, mixN_len]
  have := (show OI .u64 22 w B (.slice (some ⟨g, 0, none⟩) (nats (mixN f h n i)).length c) (nats (mixN f h n i)) by rw [hl]; exact ho).cellAt (i := k) (by rw [hl]; exact hk)
  rw [nats_get, mixN_get _ _ _ _ _ hk] at this
  exact this
theorem OM.frozen {w : World} {B g n c : Nat} {f h : Nat → Nat} {i : Nat} (ho : OM w B g n c f h i) (k : Nat) : w.frozen? ⟨g, k, none⟩ = false :=
  OI.frozenAt (by rw [nats_len, mixN_len]) ho k
theorem OM.put {w : World} {B g n c : Nat} {f h : Nat → Nat} {i : Nat} (ho : OM w B g n c f h i) (hi : i < n) : OM (w.setCell ⟨g, i, none⟩ (.int .u64 (f i : Nat))) B g n c f h (i + 1) := by
  have := OI.stored (by rw [nats_len, mixN_len]) ho i (f i : Nat)
  rw [mixN_set f h n i hi] at this
  exact this
theorem OM.drewN {w : World} {B g n c : Nat} {f h : Nat → Nat} {i : Nat} (ho : OM w B g n c f h i) (m : Nat) : OM (w.drewN m) B g n c f h i := ho
set_option maxHeartbeats 1000000 in
theorem Lifted_fwd (gf p g n r : Nat) (w : World) (hf : FD w gf p g) (hg : g < Mg.R) (h1 : 1 ≤ n) (h2 : n ≤ 4096) (hd : divs p (n : Int) = true) (hr : g ^ ((p - 1) / n) % p = r) :
    Calls Tryz.prog 90 #[.pointer (some ⟨gf, 0, none⟩), .int .i64 n, .bool false] w fun e w' => ∃ g' c, e = .returned (.tuple #[.slice (some ⟨g', 0, none⟩) n c, .int .i64 0]) ∧ OI .u64 22 w' w.heap.size (.slice (some ⟨g', 0, none⟩) n c) (nats ((List.range n).map fun i => Mg.mform p (r ^ i % p))) ∧ Below w.heap.size w w' := by
  have C := Table_fwd gf p g n r w hf hg h1 h2 hd hr
  have HF := Lib.hid hf
  have hR : p < Mg.R := by have := hf.high; simp only [Mg.R]; omega
  have hp : 0 < p := by have := hf.low; omega
  clear hf hd hr
  go_enter Tryz.func90, Tryz.ntmps90
  go_wp2_with fail
  with_reducible refine (C).mono ?_
  rintro e w1 ⟨v, rfl, ho, hb⟩
  obtain ⟨A, c, rfl, _⟩ := ho.form
  obtain ⟨g', rfl⟩ := ho.some (i := 0) (by rw [nats_len]; simp; omega)
  have hl : (nats ((List.range n).map fun i => r ^ i % p)).length = n := by rw [nats_len]; simp
  rw [hl] at ho ⊢
  have HW0 := Lib.hid (show OM w1 w.heap.size g' n c (fun i => Mg.mform p (r ^ i % p)) (fun i => r ^ i % p) 0 by unfold OM; rw [mixN_zero]; exact ho)
  have HB0 := Lib.hid hb
  have hgB : w.heap.size ≤ g' := ho.base.1
  clear ho hb hl
  go_wp2_with fail
  go_loopw [21] (fun i wr => ∃ k : Nat, k ≤ n ∧ i = .int .i64 k ∧ Hid (OM wr w.heap.size g' n c (fun i => Mg.mform p (r ^ i % p)) (fun i => r ^ i % p) k) ∧ Hid (Below w.heap.size w wr)) (fun i _ => n - (intOf i).toNat)
  case atStart => exact ⟨0, by omega, rfl, HW0, HB0⟩
  case round =>
    obtain ⟨k, hk, rfl, HO, HB⟩ := hrel
    by_cases hlt : k < n
    · have c0 := HO.out.cell hlt
      rw [if_neg (Nat.lt_irrefl k)] at c0
      have f0 := HO.out.frozen k
      have HP := Lib.hid (HO.out.put hlt)
      have HF2 := Lib.hid (HF.out.below HB.out)
      have C3 := fLift_rd gf p g (r ^ k % p) wr HF2.out (Nat.lt_trans (Nat.mod_lt _ hp) hR)
      have HB2 := Lib.hid (HB.out.setCell (p := ⟨g', k, none⟩) hgB (.int .u64 ((Mg.mform p (r ^ k % p) : Nat) : Int)))
      have hi0 : (0 : Int) ≤ (k : Int) := by omega
      have hi1 : (k : Int) < (n : Int) := by omega
      generalize Mg.mform p (r ^ k % p) = z2 at *
      generalize r ^ k % p = z at *
      have C4 := Lib.hid C3
      clear C3
      go_wp2_with fail
      with_reducible refine (C4.out.now).mono ?_
      rintro e w3 ⟨rfl, k3, rfl⟩
      go_wp2_with fail
      go_roundw
      case rel => exact ⟨k + 1, by omega, by go_num, Lib.hid (HP.out.drewN k3), Lib.hid (below_drewN HB2.out k3)⟩
      case measure => simp [intOf]; omega
    · have hkk : k = n := by omega
      subst hkk
      go_wp2_with fail
      go_ret2
      refine ⟨_, _, rfl, ?_, HB.out⟩
      have := HO.out
      unfold OM at this
      rw [mixN_full] at this
      exact this
end Go.Proofs.YtpkpadepccneeaaGreatDoor

/- The walk of dft.sums, forwards. No condition. -/
namespace Go.Proofs.YtpkpadepccneeaaGreatDoor
set_option linter.unusedVariables false
set_option linter.unusedSimpArgs false
open Go Go.RowKit Go.Shelf
/-- An own row of numbers. -/
def OL (w : World) (B g c : Nat) (ys : List Nat) : Prop := OI .u64 22 w B (.slice (some ⟨g, 0, none⟩) ys.length c) (nats ys)
theorem OL.cell {w : World} {B g c : Nat} {ys : List Nat} (h : OL w B g c ys) {k : Nat} (hk : k < ys.length) : w.cell? ⟨g, k, none⟩ = some (.int .u64 ((ys.getD k 0 : Nat) : Int)) := by
  have := (show OI .u64 22 w B (.slice (some ⟨g, 0, none⟩) (nats ys).length c) (nats ys) by rw [nats_len]; exact h).cellAt (i := k) (by rw [nats_len]; exact hk)
  rw [nats_get] at this
  exact this
theorem OL.frozen {w : World} {B g c : Nat} {ys : List Nat} (h : OL w B g c ys) (k : Nat) : w.frozen? ⟨g, k, none⟩ = false := OI.frozenAt (nats_len ys).symm h k
theorem OL.put {w : World} {B g c : Nat} {ys : List Nat} (h : OL w B g c ys) (k y : Nat) : OL (w.setCell ⟨g, k, none⟩ (.int .u64 (y : Int))) B g c (ys.set k y) := by
  have := OI.stored (nats_len ys).symm h k (y : Int)
  have e : (nats ys).set k (y : Int) = nats (ys.set k y) := (List.map_set ..).symm
  rw [e] at this
  unfold OL
  rw [List.length_set]
  exact this
theorem OL.drewN {w : World} {B g c : Nat} {ys : List Nat} (h : OL w B g c ys) (m : Nat) : OL (w.drewN m) B g c ys := h
/-- The sum of the products, up to j. -/
def dot (p r : Nat) (xs : List Nat) (n i : Nat) : Nat → Nat
  | 0 => 0
  | j + 1 => (dot p r xs n i j + r ^ (i * j % n) % p * xs.getD j 0 % p) % p
theorem dot_lt {p : Nat} (hp : 0 < p) (r : Nat) (xs : List Nat) (n i : Nat) : ∀ j, dot p r xs n i j < p
  | 0 => hp
  | _ + 1 => Nat.mod_lt _ hp
/-- A row: ahead of place i it holds f; at i it holds acc; behind it nothing. -/
def Row (f : Nat → Nat) (n i acc : Nat) (ys : List Nat) : Prop := ys.length = n ∧ (∀ t, t < i → ys.getD t 0 = f t) ∧ ys.getD i 0 = acc ∧ ∀ t, i < t → ys.getD t 0 = 0
theorem Row.start (f : Nat → Nat) (n : Nat) : Row f n 0 0 (List.replicate n 0) :=
  ⟨List.length_replicate, fun t h => by omega, by simp [List.getD_eq_getElem?_getD, List.getElem?_replicate]; split <;> rfl, fun t _ => by simp [List.getD_eq_getElem?_getD, List.getElem?_replicate]; split <;> rfl⟩
theorem Row.set {f : Nat → Nat} {n i acc : Nat} {ys : List Nat} (h : Row f n i acc ys) (hi : i < n) (acc' : Nat) : Row f n i acc' (ys.set i acc') := by
  have hl := h.1
  refine ⟨by rw [List.length_set]; exact hl, fun t ht => ?_, ?_, fun t ht => ?_⟩
  · rw [List.getD_eq_getElem?_getD, List.getElem?_set, if_neg (by omega), ← List.getD_eq_getElem?_getD]; exact h.2.1 t ht
  · rw [List.getD_eq_getElem?_getD, List.getElem?_set, if_pos rfl, if_pos (by omega)]; rfl
  · rw [List.getD_eq_getElem?_getD, List.getElem?_set, if_neg (by omega), ← List.getD_eq_getElem?_getD]; exact h.2.2.2 t ht
theorem Row.next {f : Nat → Nat} {n i : Nat} {ys : List Nat} (h : Row f n i (f i) ys) : Row f n (i + 1) 0 ys :=
  ⟨h.1, fun t ht => by
    by_cases e : t = i
    · subst e; exact h.2.2.1
    · exact h.2.1 t (by omega), h.2.2.2 (i + 1) (by omega), fun t ht => h.2.2.2 t (by omega)⟩
theorem Row.done {f : Nat → Nat} {n acc : Nat} {ys : List Nat} (h : Row f n n acc ys) : ys = (List.range n).map f := by
  apply List.ext_getElem (by rw [h.1]; simp)
  intro t h1 h2
  have ht : t < n := by rw [h.1] at h1; exact h1
  have := h.2.1 t ht
  rw [List.getD_eq_getElem?_getD, List.getElem?_eq_getElem h1] at this
  simp at this ⊢
  exact this
theorem mapget (f : Nat → Nat) (n t : Nat) (ht : t < n) : ((List.range n).map f).getD t 0 = f t := by simp [List.getD_eq_getElem?_getD, ht]
set_option maxHeartbeats 2000000 in
theorem sums_fwd (gf p g n r : Nat) (A : Option Addr) (c : Nat) (xs : List Nat) (w : World) (hf : FD w gf p g) (hg : g < Mg.R) (h1 : 1 ≤ n) (h2 : n ≤ 4096) (hd : divs p (n : Int) = true) (hr : g ^ ((p - 1) / n) % p = r)
    (hx : RI .u64 w A (nats xs)) (hl : xs.length = n) (hb : ∀ j, j < n → xs.getD j 0 < Mg.R) :
    Calls Tryz.prog 208 #[.pointer (some ⟨gf, 0, none⟩), .slice A n c, .bool false] w fun e w' => ∃ g' c', e = .returned (.slice (some ⟨g', 0, none⟩) n c') ∧ OI .u64 22 w' w.heap.size (.slice (some ⟨g', 0, none⟩) n c') (nats ((List.range n).map fun i => dot p r xs n i n)) ∧ Below w.heap.size w w' := by
  have C := Lifted_fwd gf p g n r w hf hg h1 h2 hd hr
  have HF := Lib.hid hf
  have HX := Lib.hid hx
  have HBD := Lib.hid hb
  have hR : p < Mg.R := by have := hf.high; simp only [Mg.R]; omega
  have hp : 0 < p := by have := hf.low; omega
  clear hf hd hr hx hb
  go_enter Tryz.func208, Tryz.ntmps208
  go_wp2_with fail
  with_reducible refine (C).mono ?_
  rintro e w1 ⟨gt, ct, rfl, ho, hb⟩
  have hl : (nats ((List.range n).map fun i => Mg.mform p (r ^ i % p))).length = n := by rw [nats_len]; simp
  have HT := Lib.hid ho
  have HB1 := Lib.hid hb
  have hgt := ho.base
  clear ho hb
  go_wp2_with (refine wpList_makeI rfl (.tmp 24) (.tmp 24) 26 rfl w1.heap.size 22 .u64 8 Tryz.underlying26 info22 (by decide) .i64 .i64 n rfl rfl (by omega) (Nat.le_refl _) ?_; intro w2 ho1 hb1 hs1; have HO1 := Lib.hid ho1; have HB2 := Lib.hid hb1; have HS1 := Lib.hid hs1; clear ho1 hb1 hs1)
  have HW0 := Lib.hid (show OL w2 w1.heap.size w1.heap.size n (List.replicate n 0) by
    have := HO1.out
    unfold OL
    rw [List.length_replicate]
    rw [show nats (List.replicate n 0) = List.replicate n 0 from List.map_replicate ..]
    exact this)
  have hsz := HS1.out
  have hgtn : ¬ w1.heap.size = gt := by have := hgt.2; omega
  have hgtn' : ¬ gt = w1.heap.size := by have := hgt.2; omega
  have HBw := Lib.hid (fun (U : World) (h : Below w1.heap.size w1 U) => below_then HB1.out HB1.out.size h)
  have HFw := Lib.hid (fun (U : World) (h : Below w1.heap.size w1 U) => (HF.out.below HB1.out).below h)
  have HXw := Lib.hid (fun (U : World) (h : Below w1.heap.size w1 U) => (HX.out.below HB1.out).below h)
  have HTw := Lib.hid (fun (U : World) (h : Below w1.heap.size w1 U) (t : Nat) (ht : t < n) => show U.cell? ⟨gt, t, none⟩ = some (.int .u64 ((Mg.mform p (r ^ t % p) : Nat) : Int)) from by
    have := ((show OI .u64 22 w1 w.heap.size (.slice (some ⟨gt, 0, none⟩) (nats ((List.range n).map fun i => Mg.mform p (r ^ i % p))).length ct) (nats ((List.range n).map fun i => Mg.mform p (r ^ i % p))) by rw [hl]; exact HT.out).cellAt (i := t) (by rw [hl]; exact ht))
    rw [nats_get] at this
    have e : ((List.range n).map fun i => Mg.mform p (r ^ i % p)).getD t 0 = Mg.mform p (r ^ t % p) := mapget (fun i => Mg.mform p (r ^ i % p)) n t ht
    rw [e] at this
    exact bcell h this)
  clear HO1 HS1 HF HX HT C hl hgt
  go_loopw [28] (fun i wr => ∃ (k : Nat) (ys : List Nat), k ≤ n ∧ i = .int .i64 k ∧ Hid (Row (fun i => dot p r xs n i n) n k 0 ys) ∧ Hid (OL wr w1.heap.size w1.heap.size n ys) ∧ Hid (Below w1.heap.size w1 wr)) (fun i _ => n - (intOf i).toNat)
  case atStart => exact ⟨0, _, by omega, rfl, Lib.hid (Row.start _ n), HW0, HB2⟩
  case round =>
    obtain ⟨k, ys0, hk, rfl, HR0, HO0, HBl0⟩ := hrel
    by_cases hlt : k < n
    · have hi0 : (0 : Int) ≤ (k : Int) := by omega
      have hi1 : (k : Int) < (n : Int) := by omega
      go_wp2_with fail
      go_loopw [12, 33] (fun at_ j wr => ∃ (l : Nat) (ys : List Nat), l ≤ n ∧ j = .int .i64 l ∧ at_ = .int .i64 ((k * l % n : Nat) : Int) ∧ Hid (Row (fun i => dot p r xs n i n) n k (dot p r xs n k l) ys) ∧ Hid (OL wr w1.heap.size w1.heap.size n ys) ∧ Hid (Below w1.heap.size w1 wr)) (fun _ j _ => n - (intOf j).toNat)
      case atStart => exact ⟨0, ys0, by omega, rfl, by rw [Nat.mul_zero, Nat.zero_mod]; rfl, HR0, HO0, HBl0⟩
      case round =>
        obtain ⟨l, ys, hk2, rfl, rfl, HRl, HOl, HBl⟩ := hrel
        by_cases hlt2 : l < n
        · obtain ⟨ad, rfl, hc⟩ := RI.nat (HXw.out _ HBl.out) (show l < xs.length by omega)
          have ha : k * l % n < n := Nat.mod_lt _ (by omega)
          have ht := HTw.out _ HBl.out _ ha
          have ho := HOl.out.cell (show k < ys.length by rw [HRl.out.1]; exact hlt)
          rw [HRl.out.2.2.1] at ho
          have hfz := HOl.out.frozen k
          have C1 := fTimes_rd gf p g (Mg.mform p (r ^ (k * l % n) % p)) (xs.getD l 0) wr (HFw.out _ HBl.out) (Nat.lt_trans (Mg.mform_lt hp _) hR) (HBD.out l hlt2)
          rw [Mg.mm_form hp (HFw.out _ HBl.out).odd] at C1
          have C2 := fAdd_rd gf p g (dot p r xs n k l) (r ^ (k * l % n) % p * xs.getD l 0 % p) wr (HFw.out _ HBl.out) (Nat.lt_trans (dot_lt hp ..) hR) (Nat.lt_trans (Nat.mod_lt _ hp) hR)
          have HRn := Lib.hid (HRl.out.set hlt (dot p r xs n k (l + 1)))
          have hdn : (dot p r xs n k l + r ^ (k * l % n) % p * xs.getD l 0 % p) % p = dot p r xs n k (l + 1) := rfl
          rw [hdn] at C2
          have hmod : (((k * l % n : Nat) : Int) + (k : Int)).tmod (n : Int) = ((k * (l + 1) % n : Nat) : Int) := by
            rw [show ((k * l % n : Nat) : Int) + (k : Int) = ((k * l % n + k : Nat) : Int) by omega, tmod_nat, Nat.mod_add_mod, ← Nat.mul_succ]
          have hmlt : k * (l + 1) % n < n := Nat.mod_lt _ (by omega)
          have hj0 : (0 : Int) ≤ (l : Int) := by omega
          have hj1 : (l : Int) < (n : Int) := by omega
          have hnz : ¬ (n : Int) = 0 := by omega
          have hnz' : ¬ n = 0 := by omega
          clear hdn
          generalize ha2 : k * (l + 1) % n = a2 at *
          generalize k * l % n = a1 at *
          have ha0 : (0 : Int) ≤ (a1 : Int) := by omega
          have ha1 : (a1 : Int) < (n : Int) := by omega
          generalize Mg.mform p (r ^ a1 % p) = mt at *
          generalize r ^ a1 % p * xs.getD l 0 % p = pr at *
          generalize xs.getD l 0 = x at *
          generalize hdd : dot p r xs n k (l + 1) = d2 at *
          generalize dot p r xs n k l = d1 at *
          have C1' := Lib.hid C1
          have C2' := Lib.hid C2
          clear C1 C2
          go_wp2_with fail
          have hd0 : wr.drew = wr.drewN 1 := rfl
          have C1q := Lib.hid (C1'.out.q 1)
          have C2q := Lib.hid (fun q => C2'.out.q q)
          go_region_with
            (first
            | (go_at_call 92; refine C1q.out.mono ?_; rintro e w' ⟨rfl, kq, rfl⟩)
            | (go_at_call 91; refine (C2q.out _).mono ?_; rintro e w' ⟨rfl, kr, rfl⟩))
          all_goals (
            go_wp2_with fail
            go_roundw
            case rel => exact ⟨l + 1, _, by omega, by go_num, by rw [ha2], by rw [hdd]; exact HRn, Lib.hid (OL.put (OL.drewN HOl.out _) k d2), Lib.hid ((below_drewN HBl.out _).setCell (p := ⟨w1.heap.size, k, none⟩) (Nat.le_refl _) _)⟩
            case measure => simp [intOf]; omega)
        · have hll : l = n := by omega
          subst hll
          have HRn := Lib.hid HRl.out.next
          go_wp2_with fail
          go_roundw
          case rel => exact ⟨k + 1, ys, by omega, by go_num, HRn, HOl, HBl⟩
          case measure => simp [intOf]; omega
    · have hkk : k = n := by omega
      subst hkk
      have he := HR0.out.done
      have ho := HO0.out
      unfold OL at ho
      rw [HR0.out.1, he] at ho
      go_wp2_with fail
      go_ret
      exact ⟨_, _, rfl, ho.mono HB1.out.size, HBw.out _ HBl0.out⟩
end Go.Proofs.YtpkpadepccneeaaGreatDoor

/- The walks of dft.Run forwards, plan.Run by sums at length 4 in the field of 5. No condition. -/
namespace Go.Proofs.YtpkpadepccneeaaGreatDoor
set_option linter.unusedVariables false
set_option linter.unusedSimpArgs false
open Go Go.RowKit Go.Shelf
set_option maxHeartbeats 1000000 in
theorem dRun_fwd (gf p g n r : Nat) (A : Option Addr) (c : Nat) (xs : List Nat) (w : World) (hf : FD w gf p g) (hg : g < Mg.R) (h1 : 1 ≤ n) (h2 : n ≤ 1024) (hd : divs p (n : Int) = true) (hr : g ^ ((p - 1) / n) % p = r)
    (hx : RI .u64 w A (nats xs)) (hl : xs.length = n) (hb : ∀ j, j < n → xs.getD j 0 < p) :
    Calls Tryz.prog 142 #[.pointer (some ⟨gf, 0, none⟩), .slice A n c, .bool false] w fun e w' => ∃ g' c', e = .returned (.tuple #[.slice (some ⟨g', 0, none⟩) n c', .int .i64 0]) ∧ OI .u64 22 w' w.heap.size (.slice (some ⟨g', 0, none⟩) n c') (nats ((List.range n).map fun i => dot p r xs n i n)) ∧ Below w.heap.size w w' := by
  have hR : p < Mg.R := by have := hf.high; simp only [Mg.R]; omega
  have C1 := dCheck_ok gf p g n 1024 w hf h1 h2 (by omega) hd
  have C2 := Good_yes gf p g A c xs w hf hx (by omega) (fun j hj => hb j (by omega))
  rw [hl] at C2
  have HF := Lib.hid hf
  have HX := Lib.hid hx
  have HD := Lib.hid hd
  have HBD := Lib.hid (fun j (hj : j < n) => Nat.lt_trans (hb j hj) hR)
  clear hf hx hd hb
  go_enter Tryz.func142, Tryz.ntmps142
  go_wp2_with fail
  have C1' : Rd 144 #[.pointer (some ⟨gf, 0, none⟩), .int .i64 (n : Int), .int .i64 1024] w (.int .i64 0) := C1
  clear C1
  with_reducible refine C1'.now.mono ?_
  rintro e_ w_ ⟨rfl, k1, rfl⟩
  go_wp2_with fail
  with_reducible refine (Rd.go (C2) _).mono ?_
  rintro e_ w_ ⟨rfl, k2, rfl⟩
  have C3 := sums_fwd gf p g n r A c xs (w.drewN (k1 + k2)) (HF.out.drewN _) hg h1 (by omega) HD.out hr (HX.out.drewN _) hl HBD.out
  go_wp2_with fail
  with_reducible refine (C3).mono ?_
  rintro e w3 ⟨g', c', rfl, ho, hb⟩
  have HO := Lib.hid ho
  have HB := Lib.hid ((below_drewN (Below.refl w.heap.size w) (k1 + k2)).trans hb)
  clear ho hb
  go_wp2_with fail
  go_ret2
  exact ⟨_, _, rfl, HO.out, HB.out⟩
set_option maxRecDepth 100000 in
set_option maxHeartbeats 1000000 in
theorem pRun_4 (gf : Nat) (A : Option Addr) (c : Nat) (xs : List Nat) (w : World) (hf : FD w gf 5 2) (hx : RI .u64 w A (nats xs)) (hl : xs.length = 4) (hb : ∀ j, j < 4 → xs.getD j 0 < 5) :
    Calls Tryz.prog 80 #[.pointer (some ⟨gf, 0, none⟩), .agg #[.int .i64 0, .int .i64 4, .int .i64 0], .slice A 4 c, .bool false] w fun e w' => ∃ g' c', e = .returned (.tuple #[.slice (some ⟨g', 0, none⟩) 4 c', .int .i64 0]) ∧
      OI .u64 22 w' w.heap.size (.slice (some ⟨g', 0, none⟩) 4 c') (nats ((List.range 4).map fun i => dot 5 2 xs 4 i 4)) ∧ Below w.heap.size w w' := by
  have HB0 := Lib.hid (box54 w 0 0)
  have K0 := Lib.hid (Blk.new w 54 #[.int .i64 0, .int .i64 4, .int .i64 0])
  have HF := Lib.hid (hf.below HB0.out)
  have HX := Lib.hid (hx.below HB0.out)
  have C1 := Lib.hid (pFits_0_0 gf _ HF.out)
  have HBD := Lib.hid hb
  clear hf hx hb
  have d0 := K0.out.cell 0
  have d1 := K0.out.cell 1
  have d2 := K0.out.cell 2
  go_enter Tryz.func80, Tryz.ntmps80
  go_wp2_with fail
  with_reducible refine (C1.out).mono ?_
  rintro e w1 ⟨rfl, hb1, hs1⟩
  have HB1 := Lib.hid (below_then HB0.out HB0.out.size hb1)
  have K1 := Lib.hid (K0.out.below hb1 K0.out.lt)
  have HF1 := Lib.hid (HF.out.below hb1)
  have HX1 := Lib.hid (HX.out.below hb1)
  have e0 := K1.out.cell 0
  have e1 := K1.out.cell 1
  clear hb1 hs1 d0 d1 d2
  have C2 := Lib.hid (dRun_fwd gf 5 2 4 2 A c xs w1 HF1.out (by decide) (by decide) (by decide) (by decide) (by decide) HX1.out hl HBD.out)
  go_wp2_with fail
  refine C2.out.mono ?_
  rintro e w3 ⟨g', c', rfl, ho, hb⟩
  have HO := Lib.hid ho
  have HB := Lib.hid (below_then HB1.out HB1.out.size hb)
  clear ho hb
  go_wp2_with fail
  go_ret2
  exact ⟨_, _, rfl, HO.out.mono HB1.out.size, HB.out⟩
end Go.Proofs.YtpkpadepccneeaaGreatDoor

/- The walks of axes' line: take and lay. No condition. -/
namespace Go.Proofs.YtpkpadepccneeaaGreatDoor
set_option linter.unusedVariables false
set_option linter.unusedSimpArgs false
open Go Go.RowKit Go.Shelf
/-- A line's place i. -/
def spot (start step : Int) (i : Nat) : Nat := (start + (i : Int) * step).toNat
theorem spot_eq {start step : Int} {i : Nat} (h : 0 ≤ start + (i : Int) * step) : ((spot start step i : Nat) : Int) = start + (i : Int) * step := Int.toNat_of_nonneg h
set_option maxHeartbeats 1000000 in
theorem take_any (A : Option Addr) (c n : Nat) (xs : List Nat) (start step : Int) (w : World) (hx : RI .u64 w A (nats xs)) (hn : n ≤ 4096) (hlen : xs.length ≤ 4096) (hs : -4096 ≤ start ∧ start ≤ 4096) (ht : -4096 ≤ step ∧ step ≤ 4096)
    (hb : ∀ i, i < n → 0 ≤ start + (i : Int) * step ∧ start + (i : Int) * step < xs.length) :
    Calls Tryz.prog 81 #[.agg #[.slice A xs.length c, .int .i64 start, .int .i64 step, .int .i64 n]] w fun e w' => ∃ g', e = .returned (.slice (some ⟨g', 0, none⟩) n n) ∧
      OI .u64 22 w' w.heap.size (.slice (some ⟨g', 0, none⟩) n n) (nats ((List.range n).map fun i => xs.getD (spot start step i) 0)) ∧ Below w.heap.size w w' := by
  have HB0 := Lib.hid (show Below w.heap.size w (w.alloc (.cells #[.slice A xs.length c, .int .i64 start, .int .i64 step, .int .i64 n] 173)) from (Below.refl _ _).alloc (Nat.le_refl _) _)
  have K0 := Lib.hid (Blk.new w 173 #[.slice A xs.length c, .int .i64 start, .int .i64 step, .int .i64 n])
  have HX := Lib.hid (hx.below HB0.out)
  have HBD := Lib.hid hb
  clear hx hb
  have d3 := K0.out.cell 3
  go_enter Tryz.func81, Tryz.ntmps81
  go_wp2_with (refine wpList_makeI rfl (.tmp 6) (.tmp 6) 26 rfl (w.heap.size + 1) 22 .u64 8 Tryz.underlying26 info22 (by decide) .i64 .i64 n rfl rfl (by omega) (by simp) ?_; intro w1 ho1 hb1 hs1; have HO1 := Lib.hid ho1; have HB1 := Lib.hid hb1; have HS1 := Lib.hid hs1; clear ho1 hb1 hs1)
  have hs0 : (w.alloc (.cells #[.slice A xs.length c, .int .i64 start, .int .i64 step, .int .i64 n] 173)).heap.size = w.heap.size + 1 := by simp
  have HW0 := Lib.hid (show OF w1 (w.heap.size + 1) (w.heap.size + 1) n (fun i => xs.getD (spot start step i) 0) 0 by
    have := HO1.out
    rw [hs0] at this
    unfold OF; rw [fillN_zero]; exact this)
  have HB1' := HB1.out
  rw [← hs0] at HB1'
  have HB2 := Lib.hid HB1'
  clear HO1 HS1 HB1 HB1' d3
  generalize w.alloc (.cells #[.slice A xs.length c, .int .i64 start, .int .i64 step, .int .i64 n] 173) = W at *
  go_loopw [10] (fun i wr => ∃ k : Nat, k ≤ n ∧ i = .int .i64 k ∧ Hid (OF wr (w.heap.size + 1) (w.heap.size + 1) n (fun i => xs.getD (spot start step i) 0) k) ∧ Hid (Below W.heap.size W wr)) (fun i _ => n - (intOf i).toNat)
  case atStart => exact ⟨0, by omega, rfl, HW0, HB2⟩
  case round =>
    obtain ⟨k, hk, rfl, HO, HB⟩ := hrel
    by_cases hlt : k < n
    · obtain ⟨h1, h2⟩ := HBD.out k hlt
      have hsp := spot_eq h1
      have hspl : spot start step k < xs.length := by omega
      obtain ⟨ad, rfl, hc⟩ := RI.nat (HX.out.below HB.out) hspl
      have KB := K0.out.below HB.out K0.out.lt
      have e0 := KB.cell 0
      have e1 := KB.cell 1
      have e2 := KB.cell 2
      have c0 := HO.out.cell hlt
      have f0 := HO.out.frozen k
      have HP := Lib.hid (HO.out.put hlt)
      have HB2 := Lib.hid (HB.out.setCell (p := ⟨w.heap.size + 1, k, none⟩) (by rw [hs0]; exact Nat.le_refl _) (.int .u64 ((xs.getD (spot start step k) 0 : Nat) : Int)))
      have hi0 : (0 : Int) ≤ (k : Int) := by omega
      have hi1 : (k : Int) < (n : Int) := by omega
      have hm : (-16777216 : Int) ≤ (k : Int) * step ∧ (k : Int) * step ≤ 16777216 := by
        constructor
        · have h5 : (k : Int) * (-4096) ≤ (k : Int) * step := Int.mul_le_mul_of_nonneg_left ht.1 hi0
          omega
        · have h5 : (k : Int) * step ≤ (k : Int) * 4096 := Int.mul_le_mul_of_nonneg_left ht.2 hi0
          omega
      have hw1 : wrap64 ((k : Int) * step) = (k : Int) * step := by have := IntKind.wrap_i64 ((k : Int) * step); unfold wrap64; omega
      have hw2 : wrap64 (start + (k : Int) * step) = ((spot start step k : Nat) : Int) := by rw [hsp]; unfold wrap64; omega
      have hj0 : (0 : Int) ≤ ((spot start step k : Nat) : Int) := by omega
      have hj1 : ((spot start step k : Nat) : Int) < (xs.length : Int) := by omega
      clear KB h1 h2 hm hsp
      generalize spot start step k = sp at *
      generalize xs.getD sp 0 = x at *
      go_wp2_with fail
      go_roundw
      case rel => exact ⟨k + 1, by omega, by go_num, HP, HB2⟩
      case measure => simp [intOf]; omega
    · have hkk : k = n := by omega
      subst hkk
      have ho := HO.out
      unfold OF at ho
      rw [fillN_full] at ho
      go_wp2_with fail
      go_ret
      exact ⟨_, rfl, OI.mono ho (by omega), below_then HB0.out HB0.out.size HB.out⟩
/-- The row behind the first i places of a line that is laid. -/
def layL (bs xs : List Nat) (start step : Int) : Nat → List Nat
  | 0 => bs
  | i + 1 => (layL bs xs start step i).set (spot start step i) (xs.getD i 0)
theorem layL_len (bs xs : List Nat) (start step : Int) : ∀ i, (layL bs xs start step i).length = bs.length
  | 0 => rfl
  | i + 1 => by unfold layL; rw [List.length_set]; exact layL_len bs xs start step i
set_option maxHeartbeats 1000000 in
theorem lay_any (B gb cb gx cx n m : Nat) (bs xs : List Nat) (start step : Int) (w : World) (hbs : bs.length = m) (hxs : xs.length = n) (ho : OL w B gb cb bs) (hx : ∀ i, i < n → w.cell? ⟨gx, i, none⟩ = some (.int .u64 ((xs.getD i 0 : Nat) : Int))) (hne : gx ≠ gb) (hgb : gb < w.heap.size) (hgx : gx < w.heap.size)
    (hn : n ≤ 4096) (hlen : m ≤ 4096) (hs : -4096 ≤ start ∧ start ≤ 4096) (ht : -4096 ≤ step ∧ step ≤ 4096)
    (hb : ∀ i, i < n → 0 ≤ start + (i : Int) * step ∧ start + (i : Int) * step < m) (q : Value) :
    Calls Tryz.prog 82 #[.agg #[.slice (some ⟨gb, 0, none⟩) m cb, .int .i64 start, .int .i64 step, q], .slice (some ⟨gx, 0, none⟩) n cx] w fun e w' => e = .returned undef ∧
      OL w' B gb cb (layL bs xs start step n) ∧ Fr (fun i => i = gb) w w' := by
  have HB0 := Lib.hid (show Below w.heap.size w (w.alloc (.cells #[.slice (some ⟨gb, 0, none⟩) m cb, .int .i64 start, .int .i64 step, q] 173)) from (Below.refl _ _).alloc (Nat.le_refl _) _)
  have K0 := Lib.hid (Blk.new w 173 #[.slice (some ⟨gb, 0, none⟩) m cb, .int .i64 start, .int .i64 step, q])
  have HO0 := Lib.hid (show OL (w.alloc (.cells #[.slice (some ⟨gb, 0, none⟩) m cb, .int .i64 start, .int .i64 step, q] 173)) B gb cb bs from OI.alloc ho _)
  have HX := Lib.hid hx
  have HBD := Lib.hid hb
  have HF0 := Lib.hid (Fr.of_below (fun i => i = gb) HB0.out)
  clear hx hb ho
  go_enter Tryz.func82, Tryz.ntmps82
  go_wp2_with fail
  generalize w.alloc (.cells #[.slice (some ⟨gb, 0, none⟩) m cb, .int .i64 start, .int .i64 step, q] 173) = W at *
  go_loopw [8] (fun i wr => ∃ k : Nat, k ≤ n ∧ i = .int .i64 k ∧ Hid (OL wr B gb cb (layL bs xs start step k)) ∧ Hid (Fr (fun i => i = gb) w wr) ∧ Hid (Blk wr w.heap.size 173 #[.slice (some ⟨gb, 0, none⟩) m cb, .int .i64 start, .int .i64 step, q])) (fun i _ => n - (intOf i).toNat)
  case atStart => exact ⟨0, by omega, rfl, HO0, HF0, K0⟩
  case round =>
    obtain ⟨k, hk, rfl, HO, HF, HK⟩ := hrel
    by_cases hlt : k < n
    · obtain ⟨h1, h2⟩ := HBD.out k hlt
      have hsp := spot_eq h1
      have hspl : spot start step k < m := by omega
      have hc := HF.out.cell (HX.out k hlt) hne
      have e0 := HK.out.cell 0
      have e1 := HK.out.cell 1
      have e2 := HK.out.cell 2
      have c0 := HO.out.cell (k := spot start step k) (by rw [layL_len]; omega)
      have f0 := HO.out.frozen (spot start step k)
      have HP := Lib.hid (show OL _ B gb cb (layL bs xs start step (k + 1)) from HO.out.put (spot start step k) (xs.getD k 0))
      have HF2 := Lib.hid (HF.out.trans (Fr.setCell (S := fun i => i = gb) (p := ⟨gb, spot start step k, none⟩) rfl wr (.int .u64 ((xs.getD k 0 : Nat) : Int))))
      have HK2 := Lib.hid (HK.out.far (p := ⟨gb, spot start step k, none⟩) (by show w.heap.size ≠ gb; omega) (.int .u64 ((xs.getD k 0 : Nat) : Int)))
      have hi0 : (0 : Int) ≤ (k : Int) := by omega
      have hi1 : (k : Int) < (n : Int) := by omega
      have hm : (-16777216 : Int) ≤ (k : Int) * step ∧ (k : Int) * step ≤ 16777216 := by
        constructor
        · have h5 : (k : Int) * (-4096) ≤ (k : Int) * step := Int.mul_le_mul_of_nonneg_left ht.1 hi0
          omega
        · have h5 : (k : Int) * step ≤ (k : Int) * 4096 := Int.mul_le_mul_of_nonneg_left ht.2 hi0
          omega
      have hw1 : wrap64 ((k : Int) * step) = (k : Int) * step := by unfold wrap64; omega
      have hw2 : wrap64 (start + (k : Int) * step) = ((spot start step k : Nat) : Int) := by rw [hsp]; unfold wrap64; omega
      have hj0 : (0 : Int) ≤ ((spot start step k : Nat) : Int) := by omega
      have hj1 : ((spot start step k : Nat) : Int) < (m : Int) := by omega
      clear h1 h2 hm hsp
      generalize hss : spot start step k = sp at *
      generalize xs.getD k 0 = x at *
      generalize (layL bs xs start step k).getD sp 0 = old at *
      go_wp2_with fail
      go_roundw
      case rel => exact ⟨k + 1, by omega, by go_num, HP, HF2, HK2⟩
      case measure => simp [intOf]; omega
    · have hkk : k = n := by omega
      subst hkk
      go_wp2_with fail
      exact bodyPost_end (results_none rfl _ _ _) rfl ⟨rfl, HO.out, HF.out⟩
end Go.Proofs.YtpkpadepccneeaaGreatDoor
