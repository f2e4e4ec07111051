/- The walks of field.New where the row's check fails, and of field.Known beyond the known primes. No condition. -/
import Derived.Test.YtpkpadepccneeaaGreatDoorL14
import Derived.Test.YtpkpadepccneeaaGreatDoorL09
namespace Go.Proofs.YtpkpadepccneeaaGreatDoor
open Go.RowKit
set_option linter.unusedVariables false
set_option linter.unusedSimpArgs false
theorem New_bad (A : Option Addr) (cA : Nat) (l : List Ent) (q : Nat) (w : World) (hl : EI w A l) (hcA : l.length ≤ cA) (hm : l.length ≤ 9223372036854775806) (hcm : cA ≤ maxLen) (ho : Oks l) (hck : (checkS l).2 ≠ 0) :
    Calls Tryz.prog 22 #[.slice A l.length cA, .int .u64 q] w fun e w' => e = .returned (.tuple #[.pointer none, .int .i64 (checkS l).2]) ∧ Below w.heap.size w w' := by
  have CK := Lib.hid (Check_any A cA l w hl hm hcA hcm ho)
  have g4 : ((checkS l).2 != 0) = true := by simp [hck]
  have g5 : ((checkS l).2 == 0) = false := by simp [hck]
  clear hl ho hck
  generalize (checkS l).2 = z2 at *
  generalize (checkS l).1 = z1 at *
  go_enter Tryz.func22, Tryz.ntmps22
  go_wp2_with fail
  with_reducible refine (CK.out).mono ?_
  rintro e w1 ⟨rfl, hb1⟩
  have B1 := Lib.hid hb1
  clear hb1 CK
  go_wp2_with fail
  go_ret2
  exact ⟨rfl, B1.out⟩
set_option maxRecDepth 100000 in
set_option maxHeartbeats 2000000 in
theorem known_bad (i : Int) (hi : i < 0 ∨ 5 < i) (w : World) : Calls Tryz.prog 71 #[.int .i64 i] w fun e w' => e = .returned (.tuple #[.slice none 0 0, .int .u64 0]) ∧ Below w.heap.size w w' := by
  have g0 : (i == 0) = false := beq_eq_false_iff_ne.2 (by omega)
  have g1 : (i == 1) = false := beq_eq_false_iff_ne.2 (by omega)
  have g2 : (i == 2) = false := beq_eq_false_iff_ne.2 (by omega)
  have g3 : (i == 3) = false := beq_eq_false_iff_ne.2 (by omega)
  have g4 : (i == 4) = false := beq_eq_false_iff_ne.2 (by omega)
  have g5 : (i == 5) = false := beq_eq_false_iff_ne.2 (by omega)
  clear hi
  go_enter Tryz.func71, Tryz.ntmps71
  go_wp2_with fail
  go_ret2
  refine ⟨rfl, ?_⟩
  repeat (first | exact Below.refl _ _ | refine Below.alloc ?_ (by simp <;> omega) _ | refine below_drewN ?_ _ | refine Below.drew ?_)
theorem Known_bad (i : Int) (hi : i < 0 ∨ 5 < i) (w : World) : Calls Tryz.prog 34 #[.int .i64 i] w fun e w' => e = .returned (.tuple #[.pointer none, .int .i64 1]) ∧ Below w.heap.size w w' := by
  have K := Lib.hid (known_bad i hi w)
  clear hi
  go_enter Tryz.func34, Tryz.ntmps34
  go_wp2_with fail
  with_reducible refine (K.out).mono ?_
  rintro e w1 ⟨rfl, hb1⟩
  have B1 := Lib.hid hb1
  clear hb1 K
  go_wp2_with fail
  go_ret2
  exact ⟨rfl, B1.out⟩
end Go.Proofs.YtpkpadepccneeaaGreatDoor

/- The walks of proof.Claim and field.New where no entry bears the prime. No condition. -/
namespace Go.Proofs.YtpkpadepccneeaaGreatDoor
open Go.RowKit
set_option linter.unusedVariables false
set_option linter.unusedSimpArgs false
set_option maxRecDepth 100000 in
set_option maxHeartbeats 2000000 in
theorem Claim_no (A : Option Addr) (cA : Nat) (l : List Ent) (q : Nat) (w : World) (hl : EI w A l) (hcA : l.length ≤ cA) (hcm : cA ≤ maxLen) (ho : Oks l) (hck : checkS l = (0, 0)) (hj : indexOf l q 0 = -1) (hqR : q < Mg.R) :
    Calls Tryz.prog 55 #[.slice A l.length cA, .int .u64 q] w fun e w' => e = .returned (.tuple #[.agg #[.int .u64 0, .int .u64 0, .slice none 0 0], .bool false]) ∧ Below w.heap.size w w' := by
  have hcm' : cA ≤ 9223372036854775807 := hcm
  obtain ⟨hfb, h32⟩ := checkS_none hck
  have HS := Lib.hid (row_right l hfb)
  have HB0 := Lib.hid ((Below.refl w.heap.size w).alloc (Nat.le_refl _) (.cells #[.int .u64 0, .int .u64 0, .slice none 0 0] 126))
  have K0 := Lib.hid (Blk.new w 126 #[.int .u64 0, .int .u64 0, .slice none 0 0])
  have CK := Lib.hid (Check_any A cA l (w.alloc (.cells #[.int .u64 0, .int .u64 0, .slice none 0 0] 126)) (hl.below HB0.out) (by omega) hcA hcm ho)
  rw [hck] at CK
  have HL := Lib.hid hl
  have HO := Lib.hid ho
  have HJ := Lib.hid hj
  clear hl ho hck hj hfb hcm
  go_enter Tryz.func55, Tryz.ntmps55
  go_wp2_with fail
  with_reducible refine (CK.out).mono ?_
  rintro e w1 ⟨rfl, hb1⟩
  have B1 := Lib.hid (below_then HB0.out HB0.out.size hb1)
  have K1 := Lib.hid (K0.out.below hb1 K0.out.lt)
  clear hb1 K0 CK HB0
  go_wp2_with fail
  go_loopw [20] (fun i wr => ∃ k : Nat, k ≤ l.length ∧ i = .int .i64 k ∧ Hid (indexOf l q k = -1) ∧ Hid (Below w.heap.size w wr) ∧ Hid (Blk wr w.heap.size 126 #[.int .u64 0, .int .u64 0, .slice none 0 0])) (fun i _ => l.length - (intOf i).toNat)
  case atStart => exact ⟨0, by omega, rfl, HJ, B1, K1⟩
  case round =>
    obtain ⟨k, hk, rfl, HI, HB, HK⟩ := hrel
    by_cases hlt : k < l.length
    · obtain ⟨b, o, F, cf, rfl, c1, c2, c3, hfl, hf⟩ := HL.out k hlt
      have k1 := bcell HB.out c1
      have k2 := bcell HB.out c2
      have k3 := bcell HB.out c3
      have HB1 := Lib.hid (below_then HB.out HB.out.size ((Below.refl wr.heap.size wr).alloc (Nat.le_refl _) (.cells #[.int .u64 (l.getD k .z).p, .int .u64 (l.getD k .z).g, .slice F (l.getD k .z).fs.length cf] 126)))
      have HK1 := Lib.hid (Blk.new wr 126 #[.int .u64 (l.getD k .z).p, .int .u64 (l.getD k .z).g, .slice F (l.getD k .z).fs.length cf])
      have HK2 := Lib.hid (HK.out.alloc (.cells #[.int .u64 (l.getD k .z).p, .int .u64 (l.getD k .z).g, .slice F (l.getD k .z).fs.length cf] 126))
      have es := HS.out k hlt
      have CL := Lib.hid fun X (h : Below w.heap.size w X) => Clone99_any F cf (l.getD k .z).fs X (hf.below h) es.ne (by have := es.le; omega)
      have hix := indexOf_at l q k hlt
      rw [HI.out] at hix
      clear c1 c2 c3 hfl hf es
      by_cases hpq : (l.getD k .z).p = q
      · rw [if_pos hpq] at hix
        omega
      · rw [if_neg hpq] at hix
        have g1 : (((l.getD k .z).p : Int) == (q : Int)) = false := beq_eq_false_iff_ne.2 (by omega)
        have HI2 := Lib.hid hix.symm
        have HK2' := HK2
        clear hpq hix CL
        generalize (l.getD k .z).fs.length = nf at *
        generalize (l.getD k .z).g = g at *
        generalize (l.getD k .z).p = p at *
        go_wp2_with fail
        go_roundw
        case rel => exact ⟨k + 1, by omega, by go_num, HI2, HB1, HK2⟩
        case measure => simp [intOf]; omega
    · have hkk : k = l.length := by omega
      subst hkk
      have d0 := HK.out.cell 0
      have d1 := HK.out.cell 1
      have d2 := HK.out.cell 2
      have f0 := HK.out.frozen 0
      have f1 := HK.out.frozen 1
      have f2 := HK.out.frozen 2
      have J3 := Lib.hid (((HK.out.set_ 0 (.int .u64 0)).set_ 1 (.int .u64 0)).set_ 2 (.slice none 0 0))
      have HB3 := Lib.hid (((HB.out.setCell (p := ⟨w.heap.size, 0, none⟩) (Nat.le_refl _) (.int .u64 0)).setCell (p := ⟨w.heap.size, 1, none⟩) (Nat.le_refl _) (.int .u64 0)).setCell (p := ⟨w.heap.size, 2, none⟩) (Nat.le_refl _) (.slice none 0 0))
      go_wp2_with fail
      clear d0 d1 d2 f0 f1 f2
      generalize (((wr.setCell ⟨w.heap.size, 0, none⟩ (.int .u64 0)).setCell ⟨w.heap.size, 1, none⟩ (.int .u64 0)).setCell ⟨w.heap.size, 2, none⟩ (.slice none 0 0)) = W3 at *
      have e0 : W3.cell? ⟨w.heap.size, 0, none⟩ = some (.int .u64 0) := J3.out.cell 0
      have e1 : W3.cell? ⟨w.heap.size, 1, none⟩ = some (.int .u64 0) := J3.out.cell 1
      have e2 : W3.cell? ⟨w.heap.size, 2, none⟩ = some (.slice none 0 0) := J3.out.cell 2
      exact bodyPost_ret (v := .tuple #[.agg #[.int .u64 0, .int .u64 0, .slice none 0 0], .bool false]) (by simp [results, Tryz.results55, go_sem, e0, e1, e2]) rfl ⟨rfl, HB3.out⟩
set_option maxRecDepth 100000 in
set_option maxHeartbeats 1000000 in
theorem New_none (A : Option Addr) (cA : Nat) (l : List Ent) (q : Nat) (w : World) (hl : EI w A l) (hcA : l.length ≤ cA) (hcm : cA ≤ maxLen) (ho : Oks l) (hck : checkS l = (0, 0)) (hj : indexOf l q 0 = -1) (hqR : q < Mg.R) :
    Calls Tryz.prog 22 #[.slice A l.length cA, .int .u64 q] w fun e w' => e = .returned (.tuple #[.pointer none, .int .i64 14]) ∧ Below w.heap.size w w' := by
  obtain ⟨hfb, h32⟩ := checkS_none hck
  have CK := Lib.hid (Check_any A cA l w hl (by omega) hcA hcm ho)
  rw [hck] at CK
  have CC := Lib.hid fun W (h : Below w.heap.size w W) => Claim_no A cA l q W (hl.below h) hcA hcm ho hck hj hqR
  clear hl ho hck hj hfb hcm
  go_enter Tryz.func22, Tryz.ntmps22
  go_wp2_with fail
  with_reducible refine (CK.out).mono ?_
  rintro e w1 ⟨rfl, hb1⟩
  have B1 := Lib.hid hb1
  clear hb1 CK
  go_wp2_with fail
  with_reducible refine ((CC.out w1 B1.out)).mono ?_
  rintro e w2 ⟨rfl, hb2⟩
  have B2 := Lib.hid (below_then B1.out B1.out.size hb2)
  clear hb2 CC
  have B3 := Lib.hid (below_then B2.out B2.out.size ((Below.refl w2.heap.size w2).alloc (Nat.le_refl _) (.cells #[.int .u64 0, .int .u64 0, .slice none 0 0] 126)))
  go_wp2_with fail
  go_ret2
  exact ⟨rfl, B3.out⟩
end Go.Proofs.YtpkpadepccneeaaGreatDoor

/- Plain: whether some power of two that is no less than a length divides p - 1, as CoreLinear's loop asks; it is the least such power. No program in it. No condition. -/
namespace Go.Proofs.YtpkpadepccneeaaGreatDoor
set_option linter.unusedVariables false
set_option linter.unusedSimpArgs false
/-- As far as the loop has come: powers below the j-th. -/
def someB (p n : Nat) : Nat → Bool
  | 0 => false
  | j + 1 => someB p n j || (decide (n ≤ 2 ^ j) && decide ((p - 1) % 2 ^ j = 0))
theorem someB_iff (p n : Nat) : ∀ j, someB p n j = true ↔ ∃ i, i < j ∧ n ≤ 2 ^ i ∧ (p - 1) % 2 ^ i = 0
  | 0 => by simp [someB]
  | j + 1 => by
    rw [someB, Bool.or_eq_true, someB_iff p n j, Bool.and_eq_true, decide_eq_true_eq, decide_eq_true_eq]
    constructor
    · rintro (⟨i, h1, h2⟩ | h)
      · exact ⟨i, by omega, h2⟩
      · exact ⟨j, by omega, h⟩
    · rintro ⟨i, h1, h2⟩
      by_cases e : i = j
      · subst e; exact .inr h2
      · exact .inl ⟨i, by omega, h2⟩
theorem someB_divs (p n K : Nat) (hK : K ≤ 12) (h1 : n ≤ 2 ^ K) (h2 : K = 0 ∨ 2 ^ (K - 1) < n) : someB p n 63 = divs p ((2 ^ K : Nat) : Int) := by
  rw [Bool.eq_iff_iff, someB_iff, divs_iff, Int.toNat_natCast]
  have hpos : 0 < 2 ^ K := Nat.two_pow_pos _
  constructor
  · rintro ⟨i, h3, h4, h5⟩
    refine ⟨by omega, ?_⟩
    have hle : K ≤ i := by
      rcases h2 with h2 | h2
      · omega
      · by_cases h : K ≤ i
        · exact h
        · have : 2 ^ i ≤ 2 ^ (K - 1) := Nat.pow_le_pow_right (by decide) (by omega)
          omega
    exact Nat.mod_eq_zero_of_dvd (Nat.dvd_trans (Nat.pow_dvd_pow 2 hle) (Nat.dvd_of_mod_eq_zero h5))
  · rintro ⟨_, h⟩
    exact ⟨K, by omega, h1, h⟩
end Go.Proofs.YtpkpadepccneeaaGreatDoor
