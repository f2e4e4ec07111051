/- append(x, make([]uint64, m)...) onto a row of one's own. No condition. -/
import Derived.Test.YtpkpadepccneeaaGreatDoorL30
import Derived.Test.YtpkpadepccneeaaGreatDoorL33
import Derived.Test.YtpkpadepccneeaaGreatDoorL27
import Derived.Test.YtpkpadepccneeaaGreatDoorL34
namespace Go.Proofs.YtpkpadepccneeaaGreatDoor
set_option linter.unusedVariables false
set_option linter.unusedSimpArgs false
open Go Go.RowKit Go.Shelf
theorem ints_app (l : List Int) (m : Nat) : ints .u64 (l ++ List.replicate m 0) = ints .u64 l ++ List.replicate m (.int .u64 0) := by
  simp [ints]
theorem append_zeros (W : World) (B g n c m : Nat) (l : List Int) (h : OI .u64 22 W B (.slice (some ⟨g, 0, none⟩) n c) l) (hn : l.length = n) (hs : n + m ≤ 8192) (hB : B ≤ W.heap.size) :
    ∃ v' W', (Builtin.append_ #[26, 3] 26 #[.slice (some ⟨g, 0, none⟩) n c, .int .i64 (m : Int)]).run Tryz.prog W = .ok v' W' ∧ OI .u64 22 W' B v' (l ++ List.replicate m 0) ∧ Below B W W' := by
  obtain ⟨i0, h1, h2, h3, h4⟩ := info_parts info22
  have hw : IntKind.i64.wrap (m : Int) = (m : Int) := by rw [IntKind.wrap_i64]; omega
  rcases h.2 with ⟨e, _⟩ | ⟨g', cap, cur, e, hbg, hg, hnc, hcm, hcs, htake⟩
  · cases e
  injection e with e1 e2 e3
  injection e1 with e1
  injection e1 with e1 _ _
  subst e1 e3
  rw [hn] at hnc htake
  have hil : (ints .u64 l).length = n := by simp [ints, hn]
  have hzk : ∀ k : Nat, (Builtin.zeroCells (Value.int .u64 0).cells k) = (List.replicate k (Value.int .u64 0)).toArray := by
    intro k
    apply Array.ext
    · simp [Builtin.zeroCells, Value.cells]
    · intro i h1 h2
      simp [Builtin.zeroCells, Value.cells, Nat.mod_one]
  have hlen : (l ++ List.replicate m 0).length = n + m := by simp [hn]
  rcases Nat.eq_zero_or_pos m with rfl | hm
  · refine ⟨_, W, append_none W _ n c hnc, ?_, Below.refl _ _⟩
    simpa using h
  have g1 : ¬ (m : Int) < 0 := by omega
  have g2 : ¬ 281474976710656 < (m : Int) * 8 := by omega
  have g3 : ¬ m = 0 := by omega
  by_cases hroom : n + m ≤ c
  · have hst := run_storeCells_at Tryz.prog g n 22 (List.replicate m (Value.int .u64 0)) 0 cur W hg (by simp; omega) (by intro u hu; rw [List.eq_of_mem_replicate hu]; rfl)
    simp only [Nat.add_zero] at hst
    refine ⟨.slice (some ⟨g, 0, none⟩) (n + m) c, W.setRow g (cur.toList.take n ++ List.replicate m (Value.int .u64 0) ++ cur.toList.drop (n + m)).toArray, ?_, ?_, ?_⟩
    · simp [Builtin.append_, run_underlying Tryz.underlying26, run_underlying Tryz.underlying3, sizeOf, typeInfo, zeroValue, h1, h2, h3, h4, asInt, asIntOf, hw, hroom, Question.forced, hzk, Addr.add_lit, hst, g1, g2, g3]
    · unfold OI
      rw [hlen, ints_app]
      refine ⟨by simp [hil], .inr ⟨g, c, _, rfl, hbg, setRow_heap W g cur _ 22 _ hg, hroom, hcm, ?_, ?_⟩⟩
      · simp; omega
      · rw [Nat.mul_one] at htake ⊢
        rw [htake, List.append_assoc, ← List.append_assoc]
        exact List.take_left' (by simp [hil])
    · generalize (cur.toList.take n ++ List.replicate m (Value.int .u64 0) ++ cur.toList.drop (n + m)).toArray = row
      have hgr : W.grownBy (W.setRow g row) (some g) := ⟨rfl, rfl, rfl, by simp, fun k hk hne => setRow_other W g k _ (fun e => hne (by simp [e]))⟩
      exact (Below.refl _ _).grown hgr hB (fun k hk => by have : g = k := by simpa using hk
                                                          omega)
  · have hcell : ∀ j u, (ints .u64 l)[j]? = some u → W.drew.cell? ((⟨g, 0, none⟩ : Addr).add j) = some u := by
      have := World.ownsRow.cells h (g := g) rfl
      simpa using this
    have hfo := run_firstCells_some (P := Tryz.prog) W.drew 1 n ⟨g, 0, none⟩ n c (ints .u64 l) (by simp [hil]) hcell
    have hge := grownCap_ge W (n + m) c 22
    have hcm2 : grownCap W (n + m) c 22 ≤ maxLen := grownCap_le_maxLen W (n + m) c 22 (by unfold maxLen; omega)
    have hfit : ¬ (281474976710656 < Builtin.nextslicecap (n + m) c * 8) := by
      have := growslice_fits (need := n + m) (old := c) (bytes := 8) (by omega) (by omega)
      omega
    have h63 : ¬ (9223372036854775807 < ((n : Int) + (m : Int))) := by omega
    have hnr : ¬ n + m ≤ c := hroom
    refine ⟨.slice (some ⟨W.heap.size, 0, none⟩) (n + m) (grownCap W (n + m) c 22), W.drew.alloc (.cells ((ints .u64 l ++ List.replicate m (Value.int .u64 0)).toArray ++ Builtin.zeroCells (Value.int .u64 0).cells (grownCap W (n + m) c 22 - (n + m))) 22), ?_, ?_, ?_⟩
    · simp [Builtin.append_, run_underlying Tryz.underlying26, run_underlying Tryz.underlying3, sizeOf, typeInfo, zeroValue, h1, h2, h3, h4, asInt, asIntOf, hw, hnr, Question.forced, hzk, g1, g2, g3, h63, hfit, hfo, newRow, grownCap]
      refine congrArg (fun x => W.drew.alloc (.cells x 22)) ?_
      apply Array.ext'
      simp [List.replicate_append_replicate]
    · unfold OI
      rw [hlen, ints_app]
      refine ⟨by simp [hil], .inr ⟨W.heap.size, _, _, rfl, hB, heap_alloc_new W.drew _, hge, hcm2, ?_, ?_⟩⟩
      · simp [size_zeroCells, hil, Value.cells]; omega
      · have e : ((ints .u64 l ++ List.replicate m (Value.int .u64 0)).toArray ++ Builtin.zeroCells (Value.int .u64 0).cells (grownCap W (n + m) c 22 - (n + m))).toList = (ints .u64 l ++ List.replicate m (Value.int .u64 0)) ++ (Builtin.zeroCells (Value.int .u64 0).cells (grownCap W (n + m) c 22 - (n + m))).toList := by rw [Array.toList_append]
        rw [Nat.mul_one, e]
        exact List.take_left' (by simp [hil])
    · exact (Below.refl _ _).drew.alloc hB _
end Go.Proofs.YtpkpadepccneeaaGreatDoor

/- Plain: the inverse's orders; a product of transforms, transformed back, at a field's numbers. No program in it. No condition. -/
namespace Go.Proofs.YtpkpadepccneeaaGreatDoor
set_option linter.unusedVariables false
set_option linter.unusedSimpArgs false
theorem inv_ex {a m : Nat} (hm : 2 ≤ m) (hg : Nat.gcd m a = 1) : ∃ t, InvOk a m t := by
  have all : ∀ n r t s, Euc a m r n t s → ∃ u, InvOk a m u := by
    intro n
    induction n using Nat.strongRecOn with
    | ind n ih =>
      intro r t s h
      rcases Nat.eq_zero_or_pos n with rfl | h0
      · exact ⟨t, h.one (h.done.trans hg)⟩
      · exact ih (r % n) (Nat.mod_lt _ h0) _ _ _ (h.step h0)
  exact all _ _ _ _ (Euc.start hm)
theorem inv_mul {a m : Nat} (hm : 2 ≤ m) (hg : Nat.gcd m a = 1) : invN a m * a % m = 1 := by
  obtain ⟨t, h⟩ := inv_ex hm hg
  rw [invN_eq h]
  obtain ⟨_, k, hk⟩ := h
  have e : (((t * a : Nat) : Int)) = 1 + (m : Int) * k := by rw [Int.natCast_mul]; omega
  have : ((t * a % m : Nat) : Int) = 1 := by
    rw [Int.natCast_emod, e, Int.add_mul_emod_self_left]
    exact Int.emod_eq_of_lt (by decide) (by omega)
  omega
theorem gcd_prime {p a : Nat} (hp : Nt.Prime p) (h : a % p ≠ 0) : Nat.gcd p a = 1 := by
  rcases hp.2 _ (Nat.gcd_dvd_left p a) with e | e
  · exact e
  · exact absurd (Nat.mod_eq_zero_of_dvd (e ▸ Nat.gcd_dvd_right p a)) h
theorem gcd_pow2 {p K : Nat} (hp : Nt.Prime p) (h3 : 3 ≤ p) : Nat.gcd p (2 ^ K) = 1 := by
  refine gcd_prime hp fun h => ?_
  have := Nat.le_of_dvd (by decide) (hp.dvd_pow (Nat.dvd_of_mod_eq_zero h))
  omega
theorem gcd_root {p r n : Nat} (hp : Nt.Prime p) (hn : 0 < n) (h : r ^ n % p = 1) : Nat.gcd p r = 1 := by
  refine gcd_prime hp fun e => ?_
  rw [Nat.pow_mod, e, Nat.zero_pow hn, Nat.zero_mod] at h
  exact absurd h (by decide)
theorem inv_order {p r n : Nat} (hp : Nt.Prime p) (hn : 0 < n) (hw : ∀ q, r ^ q % p = 1 ↔ n ∣ q) : invN r p * r % p = 1 ∧ ∀ q, invN r p ^ q % p = 1 ↔ n ∣ q := by
  have hv := inv_mul (a := r) hp.1 (gcd_root hp hn ((hw n).2 (Nat.dvd_refl n)))
  refine ⟨hv, fun q => ?_⟩
  rw [← hw q]
  have h := F.vw_pow hp.1 hv q
  constructor
  · intro h1
    rw [Nat.mul_mod, h1, Nat.one_mul, Nat.mod_mod] at h
    exact h
  · intro h1
    rw [Nat.mul_mod, h1, Nat.mul_one, Nat.mod_mod] at h
    exact h
theorem lin_fin {p r n la lb m : Nat} {x y : Nat → Nat} {zs : List Nat} (hp : Nt.Prime p) (hn : 0 < n) (hw : ∀ q, r ^ q % p = 1 ↔ n ∣ q) (hgn : Nat.gcd p n = 1) (hm : m < n)
    (ha : ∀ i, la ≤ i → x i = 0) (hb : ∀ i, lb ≤ i → y i = 0) (hl : la + lb ≤ n + 1) (hz : ∀ t, t < n → zs.getD t 0 = dftF p r x n t * dftF p r y n t % p) :
    invN n p * dftF p (invN r p) (fun t => zs.getD t 0) n m % p = F.conv x y n m % p := by
  obtain ⟨hv, _⟩ := inv_order hp hn hw
  have e1 : dftF p (invN r p) (fun t => zs.getD t 0) n m % p = n * F.conv x y n m % p := by
    rw [← F.conv_back hp hn hw hv hm ha hb hl, dftF, Nat.mod_mod]
    refine F.S_congr fun t ht => F.mulmod ?_ rfl
    rw [hz t ht, Nat.mod_mod]
    exact F.mulmod (by rw [dftF, Nat.mod_mod]) (by rw [dftF, Nat.mod_mod])
  refine (F.mulmod rfl e1).trans ?_
  rw [← Nat.mul_assoc]
  have := F.mulmod (c := F.conv x y n m) ((inv_mul (a := n) hp.1 hgn).trans (Nat.mod_eq_of_lt hp.1).symm) rfl
  rwa [Nat.one_mul] at this
end Go.Proofs.YtpkpadepccneeaaGreatDoor

/- The walk of radix2.Pad at any length. No condition. -/
namespace Go.Proofs.YtpkpadepccneeaaGreatDoor
open Go.RowKit
set_option linter.unusedVariables false
set_option linter.unusedSimpArgs false
theorem pad_ex (n : Nat) : ∀ K, n ≤ 2 ^ K → ∃ J, J ≤ K ∧ n ≤ 2 ^ J ∧ (J = 0 ∨ 2 ^ (J - 1) < n)
  | 0, h => ⟨0, Nat.le_refl _, h, .inl rfl⟩
  | K + 1, h => by
    by_cases h2 : n ≤ 2 ^ K
    · obtain ⟨J, h3, h4⟩ := pad_ex n K h2
      exact ⟨J, by omega, h4⟩
    · exact ⟨K + 1, Nat.le_refl _, h, .inr (by rw [Nat.add_sub_cancel]; omega)⟩
set_option maxHeartbeats 1000000 in
theorem Pad_any (n K : Nat) (hK : K ≤ 12) (h1 : n ≤ 2 ^ K) (h2 : K = 0 ∨ 2 ^ (K - 1) < n) (w : World) : Rd 47 #[.int .i64 (n : Int)] w (.int .i64 ((2 ^ K : Nat) : Int)) := by
  refine .of_same fun q => ?_
  have hn := pow_le12 hK
  have HLT := Lib.hid (show ∀ k, k < K → 2 ^ k < n ∧ 2 ^ k ≤ 4096 from fun k hk => by
    have e : 2 ^ k ≤ 2 ^ (K - 1) := Nat.pow_le_pow_right (by decide) (by omega)
    have e2 : 2 ^ (K - 1) < n := by rcases h2 with h2 | h2 <;> omega
    exact ⟨by omega, by omega⟩)
  have HN := Lib.hid h1
  have g0 : decide ((4096 : Int) < (n : Int)) = false := decide_eq_false (by omega)
  have g0' : decide (4096 < n) = false := decide_eq_false (by omega)
  have HN2 := Lib.hid hn.2
  clear h1 h2 hn
  generalize w.drewN q = w at *
  go_enter Tryz.func47, Tryz.ntmps47
  go_wp2_with fail
  go_loopw [3] (fun o wr => ∃ k : Nat, k ≤ K ∧ o = .int .i64 ((2 ^ k : Nat) : Int) ∧ w = wr) (fun o _ => 8192 - (intOf o).toNat)
  case atStart => exact ⟨0, Nat.zero_le _, rfl, rfl⟩
  case round =>
    obtain ⟨k, hk, rfl, rfl⟩ := hrel
    by_cases hlt : k < K
    · obtain ⟨e1, e2⟩ := HLT.out k hlt
      have e3 : 2 ^ (k + 1) = 2 * 2 ^ k := Nat.pow_succ' ..
      have e4 : 0 < 2 ^ k := Nat.two_pow_pos _
      have E3 := Lib.hid e3
      clear e3
      generalize h2 : 2 ^ k = a at *
      clear h2
      have g1 : decide ((a : Int) < (n : Int)) = true := decide_eq_true (by omega)
      have g1' : decide (a < n) = true := decide_eq_true (by omega)
      go_wp2_with fail
      go_roundw
      case rel => exact ⟨k + 1, by omega, by rw [E3.out]; go_num, by trivial⟩
      case measure => simp [intOf]; omega
    · have hkk : k = K := by omega
      subst hkk
      have e1 := HN.out
      have e2 := HN2.out
      generalize hka : 2 ^ k = a at *
      have HKA := Lib.hid hka
      clear hka
      have g1 : decide ((a : Int) < (n : Int)) = false := decide_eq_false (by omega)
      have g1' : decide (a < n) = false := decide_eq_false (by omega)
      go_wp2_with fail
      go_ret
      exact ⟨by rw [HKA.out]; rfl, rfl⟩
end Go.Proofs.YtpkpadepccneeaaGreatDoor
