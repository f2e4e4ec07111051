/- The walk of proof.full: whether p - 1 is the least power of g that is 1. No condition. -/
import Derived.Test.YtpkpadepccneeaaGreatDoorL05
import Derived.Test.YtpkpadepccneeaaGreatDoorL04
namespace Go.Proofs.YtpkpadepccneeaaGreatDoor
open Go.RowKit
set_option linter.unusedVariables false
theorem form_eq {p a : Nat} (h3 : 3 ≤ p) (ho : p % 2 = 1) : Mg.mform p a = Mg.mform p 1 ↔ a % p = 1 := by
  constructor
  · intro h
    have := Mg.mform_inj (by omega) ho h
    rw [this, Nat.mod_eq_of_lt (by omega)]
  · intro h
    rw [← Mg.mform_mod p a, h]
theorem drawn_below {w a b : World} (h : Below w.heap.size w a) (d : Drawn a b) : Below w.heap.size w b := by
  obtain ⟨n, rfl⟩ := d
  exact below_drewN h n
set_option maxHeartbeats 1000000 in
theorem full_any (x : Ent) (F : Option Addr) (c : Nat) (w : World) (hf : FI w F x.fs) (hm : x.fs.length ≤ 16) (hg : x.g < Mg.R) (hq : ∀ f ∈ x.fs, 1 ≤ f.q ∧ f.q < Mg.R) (ho : x.p % 2 = 1) (h3 : 3 ≤ x.p) (h63 : x.p < 9223372036854775808) :
    Calls Tryz.prog 98 #[.agg #[.int .u64 x.p, .int .u64 x.g, .slice F x.fs.length c]] w fun e w' => e = .returned (.bool (full x)) ∧ Below w.heap.size w w' := by
  have HB0 := Lib.hid ((Below.refl w.heap.size w).alloc (Nat.le_refl _) (.cells #[.int .u64 x.p, .int .u64 x.g, .slice F x.fs.length c] 126))
  have K0 := Lib.hid (Blk.new w 126 #[.int .u64 x.p, .int .u64 x.g, .slice F x.fs.length c])
  have HF := Lib.hid hf
  have CN := Lib.hid (mNew_ok x.p (w.alloc (.cells #[.int .u64 x.p, .int .u64 x.g, .slice F x.fs.length c] 126)) ho h3 h63)
  have HQ := Lib.hid hq
  have hU : full x = if x.g ^ (x.p - 1) % x.p = 1 then fullL x (x.fs.drop 0) else false := by rw [List.drop_zero]; rfl
  have HE := Lib.hid fun k => @form_eq x.p (x.g ^ k) h3 ho
  have HL := Lib.hid (fullL_at x)
  have HN := Lib.hid (fullL_end x)
  have hR : x.p < Mg.R := by simp only [Mg.R]; omega
  have hR1 : x.p - 1 < Mg.R := by omega
  have e1 : IntKind.u64.wrap ((x.p : Int) - 1) = ((x.p - 1 : Nat) : Int) := by rw [IntKind.wrap_u64]; omega
  have HW : Hid (∀ k : Nat, k < x.fs.length → 1 ≤ (x.fs.getD k .z).q ∧ (x.fs.getD k .z).q < Mg.R) := Lib.hid fun k hk => hq _ (getD_mem _ _ hk)
  have HR1 := Lib.hid hR1
  have HG := Lib.hid hg
  clear hf hq hg ho h3 h63 hR1
  generalize hfs : x.fs = fs at *
  generalize hP : x.p = p at *
  generalize hG : x.g = g at *
  generalize hM : p - 1 = m at *
  go_enter Tryz.func98, Tryz.ntmps98
  go_wp2_with fail
  with_reducible refine CN.out.mono ?_
  rintro e w1 ⟨g1, rfl, hmc, hg1, hb1⟩
  have B1 := Lib.hid (below_then HB0.out HB0.out.size hb1)
  have K1 := Lib.hid (K0.out.below hb1 (by simp))
  have M1 := Lib.hid hmc
  have F1 := Lib.hid (HF.out.below B1.out)
  clear hmc hb1 HF K0 CN HB0
  have d0 := K1.out.cell 0
  have d1 := K1.out.cell 1
  have d2 := K1.out.cell 2
  have C1 := Lib.hid (In_any g1 p g w1 M1.out HG.out)
  go_wp2_with fail
  with_reducible refine C1.out.mono ?_
  rintro e w2 ⟨rfl, n2, rfl⟩
  have C2 := Lib.hid (mPow_any g1 p g m (w1.drewN n2) (M1.out.drewN n2) HR1.out)
  have C3 := Lib.hid fun n => One_any g1 p (w1.drewN n) (M1.out.drewN n)
  by_cases hone : g ^ m % p = 1
  · rw [(HE.out m).2 hone] at C2
    rw [if_pos hone] at hU
    generalize hA : Mg.mform p 1 = one at *
    have HU := Lib.hid hU
    clear hU hone
    go_wp2_with fail
    with_reducible refine C2.out.mono ?_
    rintro e w3 ⟨rfl, n3, rfl⟩
    rw [World.drewN_drewN]
    go_wp2_with fail
    with_reducible refine (C3.out _).mono ?_
    rintro e w3 ⟨rfl, rfl⟩
    go_wp2_with fail
    go_loopw [30] (fun i wr => ∃ k : Nat, k ≤ fs.length ∧ i = .int .i64 k ∧ Hid (full x = fullL x (fs.drop k)) ∧ Hid (Below w1.heap.size w1 wr)) (fun i _ => fs.length - (intOf i).toNat)
    case atStart => exact ⟨0, by omega, rfl, HU, Lib.hid (below_drewN (Below.refl _ _) _)⟩
    case round =>
      obtain ⟨k, hk, rfl, HI, HB⟩ := hrel
      by_cases hlt : k < fs.length
      · obtain ⟨b, o, rfl, c1, c2⟩ := F1.out k hlt
        have k1 := bcell HB.out c1
        have k2 := bcell HB.out c2
        have s1 := (K1.out.below HB.out K1.out.lt).lt
        have d0 := (K1.out.below HB.out K1.out.lt).cell 0
        have d1 := (K1.out.below HB.out K1.out.lt).cell 1
        have d2 := (K1.out.below HB.out K1.out.lt).cell 2
        obtain ⟨q1, q2⟩ := HW.out k hlt
        have HS := Lib.hid (HL.out k (by simpa using hlt))
        generalize (fs.getD k .z).q = q at *
        generalize (fs.getD k .z).e = ee at *
        have hq0 : ¬ (q : Int) = 0 := by omega
        have e2 : (m : Int) / (q : Int) = ((m / q : Nat) : Int) := (Int.natCast_ediv m q).symm
        have hlq : m / q < Mg.R := Nat.lt_of_le_of_lt (Nat.div_le_self _ _) HR1.out
        have e3 : IntKind.u64.wrap ((m / q : Nat) : Int) = ((m / q : Nat) : Int) := w_small (Int.natCast_nonneg _) (by simp only [Mg.R] at hlq; omega)
        have HB2 := Lib.hid (below_then HB.out HB.out.size ((Below.refl wr.heap.size wr).alloc (Nat.le_refl _) (.cells #[.int .u64 q, .int .i64 ee] 130)))
        have M2 := Lib.hid (M1.out.below HB2.out)
        have C4 := Lib.hid (mPow_any g1 p g (m / q) _ M2.out hlq)
        have C5 := Lib.hid fun n => One_any g1 p _ (M2.out.drewN n)
        rw [hA] at C5
        clear hlq c1 c2
        generalize hmq : m / q = mq at *
        by_cases hon2 : g ^ mq % p = 1
        · rw [(HE.out mq).2 hon2] at C4
          rw [if_pos hon2] at HS
          clear hon2 hmq
          go_wp2_with fail
          with_reducible refine C4.out.mono ?_
          rintro e w3 ⟨rfl, n3, rfl⟩
          go_wp2_with fail
          with_reducible refine (C5.out _).mono ?_
          rintro e w3 ⟨rfl, rfl⟩
          go_wp2_with fail
          go_ret
          exact ⟨by rw [HI.out, HS.out]; rfl, drawn_below (below_then B1.out B1.out.size HB2.out) ⟨n3, rfl⟩⟩
        · have hne : Mg.mform p (g ^ mq) ≠ one := fun h => hon2 ((HE.out mq).1 h)
          rw [if_neg hon2] at HS
          generalize Mg.mform p (g ^ mq) = r at *
          have g1' : ((r : Int) == (one : Int)) = false := by simp; omega
          clear hon2 hmq hne
          go_wp2_with fail
          with_reducible refine C4.out.mono ?_
          rintro e w3 ⟨rfl, n3, rfl⟩
          go_wp2_with fail
          with_reducible refine (C5.out _).mono ?_
          rintro e w3 ⟨rfl, rfl⟩
          go_wp2_with fail
          go_roundw
          case rel => exact ⟨k + 1, by omega, by go_num, Lib.hid (HI.out.trans HS.out), Lib.hid (below_drewN HB2.out n3)⟩
          case measure => simp [intOf]; omega
      · have HS := HN.out k (by simpa using hlt)
        go_wp2_with fail
        go_ret
        exact ⟨by rw [HI.out, HS]; rfl, below_then B1.out B1.out.size HB.out⟩
  · have hne : Mg.mform p (g ^ m) ≠ Mg.mform p 1 := fun h => hone ((HE.out m).1 h)
    rw [if_neg hone] at hU
    generalize Mg.mform p 1 = one at *
    generalize Mg.mform p (g ^ m) = r at *
    have g1' : ((r : Int) == (one : Int)) = false := by simp; omega
    clear hone hne
    go_wp2_with fail
    with_reducible refine C2.out.mono ?_
    rintro e w3 ⟨rfl, n3, rfl⟩
    rw [World.drewN_drewN]
    go_wp2_with fail
    with_reducible refine (C3.out _).mono ?_
    rintro e w3 ⟨rfl, rfl⟩
    go_wp2_with fail
    go_ret
    exact ⟨by rw [hU]; rfl, below_drewN B1.out _⟩
end Go.Proofs.YtpkpadepccneeaaGreatDoor
