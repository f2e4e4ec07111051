/- The walk of proof.whole: whether an entry's factors can be, and are all of p - 1. No condition. -/
import Derived.Test.YtpkpadepccneeaaGreatDoorL05
import Derived.Test.YtpkpadepccneeaaGreatDoorL04
import Derived.Test.YtpkpadepccneeaaGreatDoorL01
namespace Go.Proofs.YtpkpadepccneeaaGreatDoor
open Go.RowKit
set_option linter.unusedVariables false
def prevOf (fs : List Fac) : Nat → Option Nat
  | 0 => none
  | k + 1 => some (fs.getD k .z).q
theorem wholeL_end (ah : List Ent) (p : Nat) (fs : List Fac) (n k : Nat) (h : ¬ k < fs.length) : wholeL ah p (fs.drop k) (prevOf fs k) n = decide (n = p - 1) := by
  rw [List.drop_eq_nil_of_le (by omega), wholeL]
theorem wholeL_small (ah : List Ent) (p : Nat) (fs : List Fac) (n k : Nat) (h : k < fs.length) (he : (fs.getD k .z).e < 1 ∨ 62 < (fs.getD k .z).e) : wholeL ah p (fs.drop k) (prevOf fs k) n = false := by
  rw [drop_getD fs .z h, wholeL, if_pos he]
theorem wholeL_back (ah : List Ent) (p : Nat) (fs : List Fac) (n k : Nat) (h : k < fs.length) (he : ¬ ((fs.getD k .z).e < 1 ∨ 62 < (fs.getD k .z).e)) (hb : backs ah (prevOf fs k) (fs.getD k .z).q = true) : wholeL ah p (fs.drop k) (prevOf fs k) n = false := by
  rw [drop_getD fs .z h, wholeL, if_neg he, if_pos hb]
theorem wholeL_on (ah : List Ent) (p : Nat) (fs : List Fac) (n k : Nat) (h : k < fs.length) (he : ¬ ((fs.getD k .z).e < 1 ∨ 62 < (fs.getD k .z).e)) (hb : backs ah (prevOf fs k) (fs.getD k .z).q = false) :
    wholeL ah p (fs.drop k) (prevOf fs k) n = match mulUp (fs.getD k .z).q (fs.getD k .z).e.toNat n with | none => false | some n' => wholeL ah p (fs.drop (k + 1)) (prevOf fs (k + 1)) n' := by
  rw [drop_getD fs .z h, wholeL, if_neg he, if_neg (by rw [hb]; simp)]
  rfl
set_option maxHeartbeats 2000000 in
theorem whole_any (A : Option Addr) (cA : Nat) (ah : List Ent) (x : Ent) (F : Option Addr) (c : Nat) (w : World) (ha : EI w A ah) (hA : ah.length ≤ 9223372036854775806) (hf : FI w F x.fs) (hm : x.fs.length ≤ 9223372036854775807)
    (hp0 : 1 ≤ x.p) (hp : x.p < Mg.R) (hq : ∀ f ∈ x.fs, f.q < Mg.R) :
    Calls Tryz.prog 97 #[.slice A ah.length cA, .agg #[.int .u64 x.p, .int .u64 x.g, .slice F x.fs.length c]] w fun e w' => e = .returned (.bool (whole ah x)) ∧ Below w.heap.size w w' := by
  have HB0 := Lib.hid ((Below.refl w.heap.size w).alloc (Nat.le_refl _) (.cells #[.int .u64 x.p, .int .u64 x.g, .slice F x.fs.length c] 126))
  have K0 := Lib.hid (Blk.new w 126 #[.int .u64 x.p, .int .u64 x.g, .slice F x.fs.length c])
  have HF := Lib.hid hf
  have HA := Lib.hid ha
  have hU : whole ah x = if x.fs.length = 0 then false else if 16 < x.fs.length then false else if (x.fs.getD 0 .z).q ≠ 2 then false else wholeL ah x.p (x.fs.drop 0) (prevOf x.fs 0) 1 := by rw [List.drop_zero]; rfl
  clear hf ha
  generalize hfs : x.fs = fs at *
  generalize hP : x.p = p at *
  generalize hG : x.g = g at *
  by_cases h0 : fs.length = 0
  · rw [if_pos h0] at hU
    have g0 : ((fs.length : Int) == 0) = true := by rw [beq_iff_eq]; omega
    clear h0
    go_enter Tryz.func97, Tryz.ntmps97
    go_wp2_with fail
    go_ret
    exact ⟨by rw [hU]; rfl, HB0.out⟩
  rw [if_neg h0] at hU
  have g0 : ((fs.length : Int) == 0) = false := by rw [beq_eq_false_iff_ne]; omega
  by_cases h16 : 16 < fs.length
  · rw [if_pos h16] at hU
    have g1 : decide ((16 : Int) < fs.length) = true := by simp; omega
    go_enter Tryz.func97, Tryz.ntmps97
    go_wp2_with fail
    go_ret
    exact ⟨by rw [hU]; rfl, HB0.out⟩
  rw [if_neg h16] at hU
  have g1 : decide ((16 : Int) < fs.length) = false := by simp; omega
  obtain ⟨b, o, rfl, c1, c2⟩ := HF.out 0 (by omega)
  have k1 := bcell HB0.out c1
  have k2 := bcell HB0.out c2
  rw [Nat.zero_mul, Nat.add_zero] at c1 c2 k1 k2
  have hl0 : (0 : Int) < fs.length := by omega
  by_cases h2 : (fs.getD 0 .z).q ≠ 2
  · rw [if_pos h2] at hU
    generalize (fs.getD 0 .z).q = q at *
    generalize (fs.getD 0 .z).e = ee at *
    have g2 : ((q : Int) != 2) = true := by simp; omega
    go_enter Tryz.func97, Tryz.ntmps97
    go_wp2_with fail
    go_ret
    exact ⟨by rw [hU]; rfl, HB0.out⟩
  rw [if_neg h2] at hU
  simp only [ne_eq, Decidable.not_not] at h2
  rw [h2] at c1 k1
  have HU := Lib.hid hU
  have HE := Lib.hid (wholeL_end ah p fs)
  have H1 := Lib.hid (wholeL_small ah p fs)
  have H2 := Lib.hid (wholeL_back ah p fs)
  have H3 := Lib.hid (wholeL_on ah p fs)
  have HQ : Hid (∀ k : Nat, k < fs.length → (fs.getD k .z).q < Mg.R) := Lib.hid fun k hk => hq _ (getD_mem _ _ hk)
  have HP1 := Lib.hid hp0
  have HP2 := Lib.hid hp
  clear hU h2 hq hp
  go_enter Tryz.func97, Tryz.ntmps97
  go_wp2_with fail
  go_loopw [5, 31] (fun n i wr => ∃ k m : Nat, k ≤ fs.length ∧ n = .int .u64 m ∧ i = .int .i64 k ∧ m < Mg.R ∧ Hid (whole ah x = wholeL ah p (fs.drop k) (prevOf fs k) m) ∧ Hid (Below w.heap.size w wr) ∧ Hid (Blk wr w.heap.size 126 #[.int .u64 p, .int .u64 g, .slice (some ⟨b, o, none⟩) fs.length c])) (fun _ i _ => fs.length - (intOf i).toNat)
  case atStart => exact ⟨0, 1, by omega, rfl, rfl, by decide, HU, HB0, K0⟩
  case round =>
    obtain ⟨k, m, hk, rfl, rfl, hmR, HI, HB, KB⟩ := hrel
    clear c1 c2 k1 k2 g0 g1
    have d0 := KB.out.cell 0
    have d1 := KB.out.cell 1
    have d2 := KB.out.cell 2
    by_cases hlt : k < fs.length
    · obtain ⟨b', o', eb, c1, c2⟩ := HF.out k hlt
      obtain ⟨rfl, rfl⟩ : b = b' ∧ o = o' := by simpa using eb
      have k1 := bcell HB.out c1
      have k2 := bcell HB.out c2
      have hqR := HQ.out k hlt
      have s1 := KB.out.lt
      have HB1 := Lib.hid (below_then HB.out HB.out.size ((Below.refl wr.heap.size wr).alloc (Nat.le_refl _) (.cells #[.int .u64 (fs.getD k .z).q, .int .i64 (fs.getD k .z).e] 130)))
      have KB1 := Lib.hid (KB.out.alloc (.cells #[.int .u64 (fs.getD k .z).q, .int .i64 (fs.getD k .z).e] 130))
      have KF := Lib.hid (Blk.new wr 130 #[.int .u64 (fs.getD k .z).q, .int .i64 (fs.getD k .z).e])
      have J1 := Lib.hid (H1.out m k hlt)
      have J2 := Lib.hid (H2.out m k hlt)
      have J3 := Lib.hid (H3.out m k hlt)
      have CC := Lib.hid fun n => claimed_any A cA ah (fs.getD k .z).q ((wr.alloc (.cells #[.int .u64 (fs.getD k .z).q, .int .i64 (fs.getD k .z).e] 130)).drewN n) (HA.out.below (below_drewN HB1.out n)) hA
      clear c1 c2 eb
      generalize hqq : (fs.getD k .z).q = q at *
      generalize hee : (fs.getD k .z).e = ee at *
      clear hqq hee
      by_cases he1 : ee < 1
      · have g2 : decide (ee < 1) = true := by simpa using he1
        have HJ := Lib.hid (HI.out.trans (J1.out (.inl he1)))
        clear he1
        go_wp2_with fail
        go_ret
        exact ⟨by rw [HJ.out]; rfl, HB1.out⟩
      have g2 : decide (ee < 1) = false := by simpa using he1
      by_cases he2 : 62 < ee
      · have g3 : decide ((62 : Int) < ee) = true := by simpa using he2
        have HJ := Lib.hid (HI.out.trans (J1.out (.inr he2)))
        clear he1 he2
        go_wp2_with fail
        go_ret
        exact ⟨by rw [HJ.out]; rfl, HB1.out⟩
      have g3 : decide ((62 : Int) < ee) = false := by simpa using he2
      have hee : ¬ (ee < 1 ∨ 62 < ee) := by omega
      have hee1 : 1 ≤ ee ∧ ee ≤ 62 := by omega
      have J2' := Lib.hid (J2.out hee)
      have J3' := Lib.hid (J3.out hee)
      clear J1 J2 J3 hee he1 he2
      by_cases hk0 : k = 0
      · have gk : decide (0 < k) = false := by simp; omega
        have hbk : backs ah (prevOf fs k) q = false := by rw [hk0]; rfl
        have HJ := Lib.hid (HI.out.trans (J3'.out hbk))
        clear J2' J3' hbk hk0
        go_upto_region 9 with fail
        generalize wr.alloc (.cells #[.int .u64 q, .int .i64 ee] 130) = U at *
        have u0 : U.cell? ⟨wr.heap.size, 0, none⟩ = some (.int .u64 q) := KF.out.cell 0
        have u2 : U.cell? ⟨w.heap.size, 2, none⟩ = some (.slice (some ⟨b, o, none⟩) fs.length c) := KB1.out.cell 2
        go_quiet (fail)
        obtain ⟨V, hV⟩ : ∃ V, U.drewN nq = V := ⟨_, rfl⟩
        rw [hV]
        have HBV := Lib.hid (show Below w.heap.size w V by rw [← hV]; exact below_drewN HB1.out _)
        have KBV := Lib.hid (show Blk V w.heap.size 126 #[.int .u64 p, .int .u64 g, .slice (some ⟨b, o, none⟩) fs.length c] by rw [← hV]; exact KB1.out)
        have v0 : V.cell? ⟨wr.heap.size, 0, none⟩ = some (.int .u64 q) := by rw [← hV]; exact KF.out.cell 0
        have v1 : V.cell? ⟨wr.heap.size, 1, none⟩ = some (.int .i64 ee) := by rw [← hV]; exact KF.out.cell 1
        clear hV
        clear HI u0 u2 KB1 KF HB1
        go_wp2_with fail
        go_loopw [5, 67] (fun n i wq => ∃ r j : Nat, n = .int .u64 r ∧ i = .int .i64 j ∧ (j : Int) ≤ ee ∧ r < Mg.R ∧ wq = V ∧ Hid (mulUp q ee.toNat m = mulUp q (ee.toNat - j) r)) (fun _ i _ => ee.toNat - (intOf i).toNat)
        case atStart => exact ⟨m, 0, rfl, rfl, by omega, hmR, rfl, Lib.hid rfl⟩
        case round =>
          obtain ⟨r, jj, rfl, rfl, hje, hrR, rfl, HM⟩ := hrel
          by_cases hlj : (jj : Int) < ee
          · have hstep : mulUp q (ee.toNat - jj) r = if r * q < Mg.R then mulUp q (ee.toNat - (jj + 1)) (r * q) else none := by
              rw [show ee.toNat - jj = (ee.toNat - (jj + 1)) + 1 by omega, mulUp]
            have CM := Lib.hid fun W => Mul64_any r q hrR hqR W
            have hdm := Nat.div_add_mod (r * q) 18446744073709551616
            have hLR : r * q % 18446744073709551616 < Mg.R := Nat.mod_lt _ (by decide)
            have hAov : r * q < Mg.R ↔ r * q / 18446744073709551616 = 0 := by simp only [Mg.R]; omega
            by_cases hov : r * q < Mg.R
            · have hA0 : decide (0 < r * q / 18446744073709551616) = false := by rw [hAov.1 hov]; rfl
              have hL : r * q % 18446744073709551616 = r * q := Nat.mod_eq_of_lt hov
              rw [if_pos hov, ← hL] at hstep
              have HS := Lib.hid (HM.out.trans hstep)
              clear hstep hdm hAov hov hL
              generalize r * q / 18446744073709551616 = AA at *
              generalize r * q % 18446744073709551616 = LL at *
              go_wp2_with fail
              with_reducible refine (CM.out _).mono ?_
              rintro e w' ⟨rfl, rfl⟩
              go_wp2_with fail
              go_roundw
              case rel => exact ⟨LL, jj + 1, rfl, by go_num, by omega, hLR, by simp, HS⟩
              case measure => simp [intOf]; omega
            · have hA0 : decide (0 < r * q / 18446744073709551616) = true := by simp; simp only [Mg.R] at hov; omega
              rw [if_neg hov] at hstep
              have HS := Lib.hid (HM.out.trans hstep)
              clear hstep hdm hAov hov
              generalize r * q / 18446744073709551616 = AA at *
              generalize r * q % 18446744073709551616 = LL at *
              go_wp2_with fail
              with_reducible refine (CM.out _).mono ?_
              rintro e w' ⟨rfl, rfl⟩
              go_wp2_with fail
              go_ret
              exact ⟨by rw [HJ.out, HS.out]; rfl, HBV.out⟩
          · have HS := Lib.hid (HM.out.trans (show mulUp q (ee.toNat - jj) r = some r by rw [show ee.toNat - jj = 0 by omega, mulUp]))
            have HW := Lib.hid (show whole ah x = wholeL ah p (fs.drop (k + 1)) (prevOf fs (k + 1)) r by rw [HJ.out, HS.out])
            go_wp2_with fail
            go_roundw
            case rel => exact ⟨k + 1, r, by omega, rfl, by go_num, hrR, HW, HBV, KBV⟩
            case measure => simp [intOf]; omega
      · have gk : decide (0 < k) = true := by simp; omega
        obtain ⟨j, hj⟩ : ∃ j, k = j + 1 := ⟨k - 1, by omega⟩
        obtain ⟨b', o', eb, c1, c2⟩ := HF.out j (by omega)
        obtain ⟨rfl, rfl⟩ : b = b' ∧ o = o' := by simpa using eb
        have p1 := bcell HB1.out c1
        have hjl : j < fs.length := by omega
        have hj2 : (k : Int) - 1 = (j : Int) := by omega
        have hj8 : (j : Int) < (fs.length : Int) := by omega
        have hj9 : IntKind.i64.wrap (j : Int) = (j : Int) := by rw [IntKind.wrap_i64]; omega
        have hj6 : (0 : Int) ≤ (j : Int) := by omega
        have hpv : prevOf fs k = some (fs.getD j .z).q := by rw [hj]; rfl
        rw [hpv] at J2' J3' HI
        clear c1 c2 eb hpv hk0
        generalize (fs.getD j .z).q = q0 at *
        by_cases hle : q ≤ q0
        · have gl : decide (q ≤ q0) = true := by simp; omega
          have HJ := Lib.hid (HI.out.trans (J2'.out (by unfold backs; simp [hle])))
          clear J2' J3' hj hle
          go_upto_region 9 with fail
          generalize wr.alloc (.cells #[.int .u64 q, .int .i64 ee] 130) = U at *
          have u0 : U.cell? ⟨wr.heap.size, 0, none⟩ = some (.int .u64 q) := KF.out.cell 0
          have u2 : U.cell? ⟨w.heap.size, 2, none⟩ = some (.slice (some ⟨b, o, none⟩) fs.length c) := KB1.out.cell 2
          go_quiet (fail)
          go_wp2_with fail
          go_ret
          exact ⟨by rw [HJ.out]; rfl, below_drewN HB1.out _⟩
        · have gl : decide (q ≤ q0) = false := by simp; omega
          by_cases hcl : claimed ah q = true
          · have HJ := Lib.hid (HI.out.trans (J3'.out (by unfold backs; simp [hle, hcl])))
            rw [hcl] at CC
            clear J2' J3' hj hle hcl
            go_upto_region 9 with fail
            generalize wr.alloc (.cells #[.int .u64 q, .int .i64 ee] 130) = U at *
            have u0 : U.cell? ⟨wr.heap.size, 0, none⟩ = some (.int .u64 q) := KF.out.cell 0
            have u2 : U.cell? ⟨w.heap.size, 2, none⟩ = some (.slice (some ⟨b, o, none⟩) fs.length c) := KB1.out.cell 2
            go_region_held3 (fun w' => w'.cell? ⟨w.heap.size, 2, none⟩ = some (.slice (some ⟨b, o, none⟩) fs.length c) ∧ w'.cell? ⟨wr.heap.size, 0, none⟩ = some (.int .u64 q) ∧ w'.cell? ⟨b, o + j * 2, none⟩ = some (.int .u64 q0)) (first | exact hS | go_keep)
              ((go_at_call 154; refine (CC.out _).mono ?_; rintro e V ⟨rfl, hbu⟩; have HU := Lib.hid (below_then (Drawn.below ⟨1, rfl⟩ U.heap.size) (Nat.le_refl _) hbu); have hS := And.intro (bcell hbu u2) (And.intro (bcell hbu u0) (bcell hbu p1)); clear hbu CC))
            have HBV := Lib.hid (below_then HB1.out HB1.out.size HU.out)
            have KBV := Lib.hid (KB1.out.below HU.out KB1.out.lt)
            have v0 : V.cell? ⟨wr.heap.size, 0, none⟩ = some (.int .u64 q) := (KF.out.below HU.out KF.out.lt).cell 0
            have v1 : V.cell? ⟨wr.heap.size, 1, none⟩ = some (.int .i64 ee) := (KF.out.below HU.out KF.out.lt).cell 1
            clear HU
            clear gl hj2 hj8 hj9 hj6 hjl p1
            clear HI u0 u2 KB1 KF HB1
            go_wp2_with fail
            go_loopw [5, 67] (fun n i wq => ∃ r j : Nat, n = .int .u64 r ∧ i = .int .i64 j ∧ (j : Int) ≤ ee ∧ r < Mg.R ∧ wq = V ∧ Hid (mulUp q ee.toNat m = mulUp q (ee.toNat - j) r)) (fun _ i _ => ee.toNat - (intOf i).toNat)
            case atStart => exact ⟨m, 0, rfl, rfl, by omega, hmR, rfl, Lib.hid rfl⟩
            case round =>
              obtain ⟨r, jj, rfl, rfl, hje, hrR, rfl, HM⟩ := hrel
              by_cases hlj : (jj : Int) < ee
              · have hstep : mulUp q (ee.toNat - jj) r = if r * q < Mg.R then mulUp q (ee.toNat - (jj + 1)) (r * q) else none := by
                  rw [show ee.toNat - jj = (ee.toNat - (jj + 1)) + 1 by omega, mulUp]
                have CM := Lib.hid fun W => Mul64_any r q hrR hqR W
                have hdm := Nat.div_add_mod (r * q) 18446744073709551616
                have hLR : r * q % 18446744073709551616 < Mg.R := Nat.mod_lt _ (by decide)
                have hAov : r * q < Mg.R ↔ r * q / 18446744073709551616 = 0 := by simp only [Mg.R]; omega
                by_cases hov : r * q < Mg.R
                · have hA0 : decide (0 < r * q / 18446744073709551616) = false := by rw [hAov.1 hov]; rfl
                  have hL : r * q % 18446744073709551616 = r * q := Nat.mod_eq_of_lt hov
                  rw [if_pos hov, ← hL] at hstep
                  have HS := Lib.hid (HM.out.trans hstep)
                  clear hstep hdm hAov hov hL
                  generalize r * q / 18446744073709551616 = AA at *
                  generalize r * q % 18446744073709551616 = LL at *
                  go_wp2_with fail
                  with_reducible refine (CM.out _).mono ?_
                  rintro e w' ⟨rfl, rfl⟩
                  go_wp2_with fail
                  go_roundw
                  case rel => exact ⟨LL, jj + 1, rfl, by go_num, by omega, hLR, by simp, HS⟩
                  case measure => simp [intOf]; omega
                · have hA0 : decide (0 < r * q / 18446744073709551616) = true := by simp; simp only [Mg.R] at hov; omega
                  rw [if_neg hov] at hstep
                  have HS := Lib.hid (HM.out.trans hstep)
                  clear hstep hdm hAov hov
                  generalize r * q / 18446744073709551616 = AA at *
                  generalize r * q % 18446744073709551616 = LL at *
                  go_wp2_with fail
                  with_reducible refine (CM.out _).mono ?_
                  rintro e w' ⟨rfl, rfl⟩
                  go_wp2_with fail
                  go_ret
                  exact ⟨by rw [HJ.out, HS.out]; rfl, HBV.out⟩
              · have HS := Lib.hid (HM.out.trans (show mulUp q (ee.toNat - jj) r = some r by rw [show ee.toNat - jj = 0 by omega, mulUp]))
                have HW := Lib.hid (show whole ah x = wholeL ah p (fs.drop (k + 1)) (prevOf fs (k + 1)) r by rw [HJ.out, HS.out])
                go_wp2_with fail
                go_roundw
                case rel => exact ⟨k + 1, r, by omega, rfl, by go_num, hrR, HW, HBV, KBV⟩
                case measure => simp [intOf]; omega
          · have HJ := Lib.hid (HI.out.trans (J2'.out (by unfold backs; simp [hcl])))
            rw [show claimed ah q = false by simpa using hcl] at CC
            clear J2' J3' hj hle hcl
            go_upto_region 9 with fail
            generalize wr.alloc (.cells #[.int .u64 q, .int .i64 ee] 130) = U at *
            have u0 : U.cell? ⟨wr.heap.size, 0, none⟩ = some (.int .u64 q) := KF.out.cell 0
            have u2 : U.cell? ⟨w.heap.size, 2, none⟩ = some (.slice (some ⟨b, o, none⟩) fs.length c) := KB1.out.cell 2
            go_region_held3 (fun w' => w'.cell? ⟨w.heap.size, 2, none⟩ = some (.slice (some ⟨b, o, none⟩) fs.length c) ∧ w'.cell? ⟨wr.heap.size, 0, none⟩ = some (.int .u64 q) ∧ w'.cell? ⟨b, o + j * 2, none⟩ = some (.int .u64 q0)) (first | exact hS | go_keep)
              ((go_at_call 154; refine (CC.out _).mono ?_; rintro e V ⟨rfl, hbu⟩; have HU := Lib.hid (below_then (Drawn.below ⟨1, rfl⟩ U.heap.size) (Nat.le_refl _) hbu); have hS := And.intro (bcell hbu u2) (And.intro (bcell hbu u0) (bcell hbu p1)); clear hbu CC))
            have HBV := Lib.hid (below_then HB1.out HB1.out.size HU.out)
            have KBV := Lib.hid (KB1.out.below HU.out KB1.out.lt)
            have v0 : V.cell? ⟨wr.heap.size, 0, none⟩ = some (.int .u64 q) := (KF.out.below HU.out KF.out.lt).cell 0
            have v1 : V.cell? ⟨wr.heap.size, 1, none⟩ = some (.int .i64 ee) := (KF.out.below HU.out KF.out.lt).cell 1
            clear HU
            go_wp2_with fail
            go_ret
            exact ⟨by rw [HJ.out]; rfl, HBV.out⟩
    · have HS := Lib.hid (HI.out.trans (HE.out m k hlt))
      have e1 : IntKind.u64.wrap ((p : Int) - 1) = ((p - 1 : Nat) : Int) := by rw [IntKind.wrap_u64]; have := HP1.out; have := HP2.out; simp only [Mg.R] at this; omega
      by_cases hlast : m = p - 1
      · rw [decide_eq_true hlast] at HS
        rw [← hlast] at e1
        clear hlast
        go_wp2_with fail
        go_ret
        exact ⟨by rw [HS.out]; simp, HB.out⟩
      · rw [decide_eq_false hlast] at HS
        have g9 : ((m : Int) == ((p - 1 : Nat) : Int)) = false := by rw [beq_eq_false_iff_ne]; omega
        generalize p - 1 = p1 at *
        clear hlast
        go_wp2_with fail
        go_ret
        exact ⟨by rw [HS.out]; simp, HB.out⟩
end Go.Proofs.YtpkpadepccneeaaGreatDoor

/- Plain numbers: a row whose entries are right proves its numbers (Lucas); the root of an order. No program in it. No condition. -/
namespace Go.Proofs.YtpkpadepccneeaaGreatDoor
set_option linter.unusedVariables false
theorem mulUp_val (q : Nat) : ∀ (k n r : Nat), mulUp q k n = some r → n * q ^ k = r
  | 0, n, r, h => by rw [mulUp] at h; injection h with h; rw [Nat.pow_zero, Nat.mul_one, h]
  | k + 1, n, r, h => by
    rw [mulUp] at h
    split at h
    · have := mulUp_val q k _ _ h
      rw [← this, Nat.pow_succ, Nat.mul_comm (q ^ k), Nat.mul_assoc]
    · cases h
def facs (fs : List Fac) : List (Nat × Nat) := fs.map fun f => (f.q, f.e.toNat)
theorem wholeL_spec (ah : List Ent) (p : Nat) : ∀ (fs : List Fac) (prev : Option Nat) (n : Nat), wholeL ah p fs prev n = true →
    n * Nt.prodOf (facs fs) = p - 1 ∧ (∀ q0, prev = some q0 → ∀ f ∈ fs, claimed ah f.q = true)
  | [], prev, n, h => by
    rw [wholeL, decide_eq_true_iff] at h
    exact ⟨by rw [show Nt.prodOf (facs []) = 1 from rfl, Nat.mul_one, h], fun _ _ f hf => by cases hf⟩
  | f :: r, prev, n, h => by
    rw [wholeL] at h
    split at h
    · cases h
    · split at h
      · cases h
      · rename_i hb
        cases hm : mulUp f.q f.e.toNat n with
        | none => rw [hm] at h; cases h
        | some n' =>
          rw [hm] at h
          have ih := wholeL_spec ah p r (some f.q) n' h
          have hv := mulUp_val _ _ _ _ hm
          refine ⟨?_, fun q0 hq g hg => ?_⟩
          · rw [← ih.1, ← hv, Nat.mul_assoc]; rfl
          · rcases List.mem_cons.1 hg with rfl | hg
            · subst hq
              simp only [backs, Bool.or_eq_true, decide_eq_true_eq, Bool.not_eq_true', not_or] at hb
              simpa using hb.2
            · exact ih.2 _ rfl g hg
theorem wholeL_none (ah : List Ent) (p : Nat) (f : Fac) (r : List Fac) (n : Nat) (h : wholeL ah p (f :: r) none n = true) : ∀ g ∈ r, claimed ah g.q = true := by
  rw [wholeL] at h
  split at h
  · cases h
  · split at h
    · cases h
    · cases hm : mulUp f.q f.e.toNat n with
      | none => rw [hm] at h; cases h
      | some n' =>
        rw [hm] at h
        exact (wholeL_spec ah p r (some f.q) n' h).2 _ rfl
theorem fullL_spec (x : Ent) : ∀ fs : List Fac, fullL x fs = true → ∀ f ∈ fs, x.g ^ ((x.p - 1) / f.q) % x.p ≠ 1
  | [], _, f, hf => by cases hf
  | a :: r, h, f, hf => by
    rw [fullL] at h
    split at h
    · cases h
    · rename_i hne
      rcases List.mem_cons.1 hf with rfl | hf
      · exact hne
      · exact fullL_spec x r h f hf
structure RightS (ah : List Ent) (x : Ent) : Prop where
  odd : x.p % 2 = 1
  low : 3 ≤ x.p
  high : x.p < 9223372036854775808
  g2 : 2 ≤ x.g
  gp : x.g < x.p
  ne : x.fs.length ≠ 0
  le : x.fs.length ≤ 16
  two : ∀ f ∈ x.fs, f.q = 2 ∨ claimed ah f.q = true
  prod : Nt.prodOf (facs x.fs) = x.p - 1
  one : x.g ^ (x.p - 1) % x.p = 1
  not : ∀ f ∈ x.fs, x.g ^ ((x.p - 1) / f.q) % x.p ≠ 1
theorem right_spec {ah : List Ent} {x : Ent} (h : right ah x = true) : RightS ah x := by
  unfold right at h
  split at h
  · cases h
  split at h
  · cases h
  split at h
  · cases h
  split at h
  · cases h
  split at h
  · cases h
  split at h
  · cases h
  rw [Bool.and_eq_true] at h
  obtain ⟨hw, hf⟩ := h
  unfold whole at hw
  split at hw
  · cases hw
  split at hw
  · cases hw
  split at hw
  · cases hw
  unfold full at hf
  split at hf
  · rename_i hone
    rename_i hq2
    have hq2' : (x.fs.getD 0 .z).q = 2 := Classical.byContradiction fun h => hq2 h
    refine ⟨by omega, by omega, by omega, by omega, by omega, by omega, by omega, ?_, ?_, hone, fullL_spec x x.fs hf⟩
    · intro f hmem
      cases hfs : x.fs with
      | nil => rw [hfs] at hmem; cases hmem
      | cons a r =>
        rw [hfs] at hmem hw hq2'
        rcases List.mem_cons.1 hmem with rfl | hmem
        · exact .inl hq2'
        · exact .inr (wholeL_none ah _ _ _ _ hw f hmem)
    · have := (wholeL_spec ah _ _ _ _ hw).1
      rw [Nat.one_mul] at this
      exact this
  · cases hf
theorem firstBad_spec (l : List Ent) : ∀ (n i : Nat), l.length - i = n → firstBad l i = none → ∀ j, i ≤ j → j < l.length → right (l.take j) (l.getD j .z) = true
  | 0, i, hn, h, j, h1, h2 => by omega
  | n + 1, i, hn, h, j, h1, h2 => by
    rw [firstBad_at l i (by omega)] at h
    split at h
    · rename_i hr
      by_cases hij : i = j
      · subst hij; exact hr
      · exact firstBad_spec l n (i + 1) (by omega) h j (by omega) h2
    · cases h
theorem two_prime : Nt.Prime 2 := ⟨by decide, fun d hd => by
  have := Nat.le_of_dvd (by decide) hd
  have h0 : d ≠ 0 := fun e => by subst e; exact absurd (Nat.eq_zero_of_zero_dvd hd) (by decide)
  omega⟩
/-- All that a row which is right tells of an entry. -/
structure EntS (x : Ent) : Prop where
  odd : x.p % 2 = 1
  low : 3 ≤ x.p
  high : x.p < 9223372036854775808
  g2 : 2 ≤ x.g
  gp : x.g < x.p
  ne : x.fs.length ≠ 0
  le : x.fs.length ≤ 16
  prime : Nt.Prime x.p
  order : ∀ k, x.g ^ k % x.p = 1 ↔ (x.p - 1) ∣ k
theorem row_right (l : List Ent) (h : firstBad l 0 = none) : ∀ i, i < l.length → EntS (l.getD i .z) := by
  intro i
  induction i using Nat.strongRecOn with
  | _ i ih =>
    intro hi
    have r := right_spec (firstBad_spec l l.length 0 (by omega) h i (by omega) hi)
    have hp : ∀ f ∈ facs (l.getD i .z).fs, Nt.Prime f.1 := by
      intro f hf
      simp only [facs, List.mem_map] at hf
      obtain ⟨a, ha, rfl⟩ := hf
      rcases r.two a ha with h2 | hc
      · show Nt.Prime a.q
        rw [h2]; exact two_prime
      · obtain ⟨j, hj, he⟩ := (claimed_iff _ _).1 hc
        rw [List.length_take] at hj
        have hget : (l.take i).getD j .z = l.getD j .z := by
          rw [List.getD_eq_getElem?_getD, List.getD_eq_getElem?_getD, List.getElem?_take_of_lt (by omega)]
        rw [hget] at he
        show Nt.Prime a.q
        rw [← he]
        exact (ih j (by omega) (by omega)).prime
    have hl := r.low
    have ho : ∀ k, (l.getD i .z).g ^ k % (l.getD i .z).p = 1 ↔ ((l.getD i .z).p - 1) ∣ k :=
      Nt.full_order (by omega) hp r.prod r.one (fun f hf => by
        simp only [facs, List.mem_map] at hf
        obtain ⟨a, ha, rfl⟩ := hf
        exact r.not a ha)
    exact ⟨r.odd, r.low, r.high, r.g2, r.gp, r.ne, r.le, Nt.prime_of_order (by omega) ho, ho⟩
theorem EntS.no_div {x : Ent} (h : EntS x) (d : Nat) (h2 : 2 ≤ d) (hd : d * d ≤ x.p) : x.p % d ≠ 0 := by
  intro he
  rcases h.prime.2 d (Nat.dvd_of_mod_eq_zero he) with h1 | h1
  · omega
  · subst h1
    have := h.low
    have : 3 * x.p ≤ x.p * x.p := Nat.mul_le_mul_right _ h.low
    omega
/-- The root of an order that divides p - 1 has just that order. -/
theorem EntS.root {x : Ent} (h : EntS x) (n : Nat) (hn : (x.p - 1) % n = 0) (k : Nat) : (x.g ^ ((x.p - 1) / n) % x.p) ^ k % x.p = 1 ↔ k % n = 0 := by
  rw [Nt.root_order (by have := h.low; omega) h.order (Nat.dvd_of_mod_eq_zero hn)]
  exact ⟨fun h => Nat.mod_eq_zero_of_dvd h, fun h => Nat.dvd_of_mod_eq_zero h⟩
end Go.Proofs.YtpkpadepccneeaaGreatDoor

/- Contracts of functions that only read: they hand back a value and may draw. The context's readers. No condition. -/
namespace Go.Proofs.YtpkpadepccneeaaGreatDoor
open Go.RowKit
set_option linter.unusedVariables false
/-- Called so, whatever has been drawn, it hands back v and only draws. -/
def Rd (f : FuncId) (args : Array Value) (w : World) (v : Value) : Prop := ∀ n, Calls Tryz.prog f args (w.drewN n) fun e w' => e = .returned v ∧ ∃ k, w' = w.drewN (n + k)
theorem Rd.of_drawn {f : FuncId} {args : Array Value} {w : World} {v : Value} (h : ∀ n, Calls Tryz.prog f args (w.drewN n) fun e w' => e = .returned v ∧ Drawn (w.drewN n) w') : Rd f args w v :=
  fun n => (h n).mono fun _ _ ⟨he, k, hk⟩ => ⟨he, k, by rw [hk, World.drewN_drewN]⟩
theorem Rd.of_same {f : FuncId} {args : Array Value} {w : World} {v : Value} (h : ∀ n, Calls Tryz.prog f args (w.drewN n) fun e w' => e = .returned v ∧ w.drewN n = w') : Rd f args w v :=
  fun n => (h n).mono fun _ _ ⟨he, hk⟩ => ⟨he, 0, hk.symm⟩
theorem Rd.q {f : FuncId} {args : Array Value} {w : World} {v : Value} (h : Rd f args w v) (n : Nat) : Calls Tryz.prog f args (w.drewN n) fun e w' => e = .returned v ∧ ∃ k, w' = w.drewN k :=
  (h n).mono fun _ _ ⟨he, k, hk⟩ => ⟨he, n + k, hk⟩
theorem Rd.qa {f : FuncId} {args : Array Value} {w : World} {v : Value} (h : Rd f args w v) (a n : Nat) : Calls Tryz.prog f args (w.drewN (a + n)) fun e w' => e = .returned v ∧ ∃ k, w' = w.drewN (a + k) :=
  (h (a + n)).mono fun _ _ ⟨he, k, hk⟩ => ⟨he, n + k, by rw [hk, Nat.add_assoc]⟩
theorem Rd.go {f : FuncId} {args : Array Value} {w : World} {v : Value} (h : Rd f args w v) (n : Nat) : Calls Tryz.prog f args (w.drewN n) fun e w' => e = .returned v ∧ ∃ k, w' = w.drewN (n + k) := h n
theorem drawn_le {w : World} {n m : Nat} (h : n ≤ m) : Drawn (w.drewN n) (w.drewN m) := ⟨m - n, by rw [World.drewN_drewN, show n + (m - n) = m by omega]⟩
/-- At the world itself. -/
theorem Rd.now {f : FuncId} {args : Array Value} {w : World} {v : Value} (h : Rd f args w v) : Calls Tryz.prog f args w fun e w' => e = .returned v ∧ ∃ k, w' = w.drewN k := h.q 0
theorem Rd.drew {f : FuncId} {args : Array Value} {w : World} {v : Value} (h : Rd f args w v) (m : Nat) : Rd f args (w.drewN m) v := fun n => by
  rw [World.drewN_drewN]
  exact (h (m + n)).mono fun _ _ ⟨he, k, hk⟩ => ⟨he, k, by rw [hk, World.drewN_drewN, Nat.add_assoc]⟩
section
variable {g m x y k a : Nat} {w : World}
theorem In_rd (g m x : Nat) (w : World) (hc : MC w g m) (hx : x < Mg.R) : Rd 104 #[.pointer (some ⟨g, 0, none⟩), .int .u64 x] w (.int .u64 ((Mg.mform m x : Nat) : Int)) := .of_drawn fun n => In_any g m x _ (hc.drewN n) hx
theorem Out_rd (g m x : Nat) (w : World) (hc : MC w g m) (hx : x < Mg.R) : Rd 102 #[.pointer (some ⟨g, 0, none⟩), .int .u64 x] w (.int .u64 ((Mg.mm m x 1 : Nat) : Int)) := .of_drawn fun n => Out_any g m x _ (hc.drewN n) hx
theorem mMul_rd (g m x y : Nat) (w : World) (hc : MC w g m) (hx : x < Mg.R) (hy : y < Mg.R) : Rd 149 #[.pointer (some ⟨g, 0, none⟩), .int .u64 x, .int .u64 y] w (.int .u64 ((Mg.mm m x y : Nat) : Int)) := .of_drawn fun n => mMul_any g m x y _ (hc.drewN n) hx hy
theorem mPow_rd (g m a k : Nat) (w : World) (hc : MC w g m) (hk : k < Mg.R) : Rd 103 #[.pointer (some ⟨g, 0, none⟩), .int .u64 ((Mg.mform m a : Nat) : Int), .int .u64 k] w (.int .u64 ((Mg.mform m (a ^ k) : Nat) : Int)) := .of_drawn fun n => mPow_any g m a k _ (hc.drewN n) hk
theorem mAdd_rd (g m x y : Nat) (w : World) (hc : MC w g m) (hx : x < Mg.R) (hy : y < Mg.R) : Rd 148 #[.pointer (some ⟨g, 0, none⟩), .int .u64 x, .int .u64 y] w (.int .u64 (((x + y) % m : Nat) : Int)) := .of_same fun n => mAdd_any g m x y _ (hc.drewN n) hx hy
theorem mSub_rd (g m x y : Nat) (w : World) (hc : MC w g m) (hx : x < Mg.R) (hy : y < Mg.R) : Rd 150 #[.pointer (some ⟨g, 0, none⟩), .int .u64 x, .int .u64 y] w (.int .u64 (((x + (m - y % m)) % m : Nat) : Int)) := .of_same fun n => mSub_any g m x y _ (hc.drewN n) hx hy
theorem mNeg_rd (g m x : Nat) (w : World) (hc : MC w g m) (hx : x < Mg.R) : Rd 210 #[.pointer (some ⟨g, 0, none⟩), .int .u64 x] w (.int .u64 (((m - x % m) % m : Nat) : Int)) := .of_same fun n => mNeg_any g m x _ (hc.drewN n) hx
end
end Go.Proofs.YtpkpadepccneeaaGreatDoor

/- The walks of field: a field that lies in memory, its readers. No condition. -/
namespace Go.Proofs.YtpkpadepccneeaaGreatDoor
open Go.RowKit
set_option linter.unusedVariables false
/-- A field lies at a block's head. -/
structure FD (w : World) (gf p g : Nat) : Prop where
  mc : ∃ gc, MC w gc p ∧ w.cell? ⟨gf, 0, none⟩ = some (.pointer (some ⟨gc, 0, none⟩))
  cp : w.cell? ⟨gf, 1, none⟩ = some (.int .u64 (p : Int))
  cg : w.cell? ⟨gf, 2, none⟩ = some (.int .u64 (g : Int))
theorem FD.below {w w1 : World} {gf p g : Nat} (h : FD w gf p g) (hb : Below w.heap.size w w1) : FD w1 gf p g := by
  obtain ⟨gc, hc, c0⟩ := h.mc
  exact ⟨⟨gc, hc.below hb, bcell hb c0⟩, bcell hb h.cp, bcell hb h.cg⟩
theorem FD.drewN {w : World} {gf p g : Nat} (h : FD w gf p g) (n : Nat) : FD (w.drewN n) gf p g := by
  obtain ⟨gc, hc, c0⟩ := h.mc
  exact ⟨⟨gc, hc.drewN n, c0⟩, h.cp, h.cg⟩
theorem FD.odd {w : World} {gf p g : Nat} (h : FD w gf p g) : p % 2 = 1 := by obtain ⟨gc, hc, c0⟩ := h.mc; exact hc.odd
theorem FD.low {w : World} {gf p g : Nat} (h : FD w gf p g) : 3 ≤ p := by obtain ⟨gc, hc, c0⟩ := h.mc; exact hc.low
theorem FD.high {w : World} {gf p g : Nat} (h : FD w gf p g) : p < 9223372036854775808 := by obtain ⟨gc, hc, c0⟩ := h.mc; exact hc.high
/-- A field whose blocks lie between two bounds. -/
structure FB (lo hi : Nat) (w : World) (gf p g : Nat) : Prop where
  above : lo ≤ gf
  under : gf < hi
  mc : ∃ gc, lo ≤ gc ∧ gc < hi ∧ MC w gc p ∧ w.cell? ⟨gf, 0, none⟩ = some (.pointer (some ⟨gc, 0, none⟩))
  cp : w.cell? ⟨gf, 1, none⟩ = some (.int .u64 (p : Int))
  cg : w.cell? ⟨gf, 2, none⟩ = some (.int .u64 (g : Int))
theorem FB.fd {lo hi : Nat} {w : World} {gf p g : Nat} (h : FB lo hi w gf p g) : FD w gf p g := by
  obtain ⟨gc, _, _, hc, c0⟩ := h.mc
  exact ⟨⟨gc, hc, c0⟩, h.cp, h.cg⟩
theorem fAdd_rd (gf p g x y : Nat) (w : World) (hf : FD w gf p g) (hx : x < Mg.R) (hy : y < Mg.R) :
    Rd 91 #[.pointer (some ⟨gf, 0, none⟩), .int .u64 x, .int .u64 y] w (.int .u64 (((x + y) % p : Nat) : Int)) := by
  refine Rd.of_drawn fun n => ?_
  obtain ⟨gc, hc, c0⟩ := hf.mc
  have C := Lib.hid (mAdd_rd gc p x y w hc hx hy)
  clear hf
  generalize ((x + y) % p) = r at *
  go_enter Tryz.func91, Tryz.ntmps91
  go_wp2_with fail
  with_reducible refine (Rd.go (C.out) _).mono ?_
  rintro e_ w_ ⟨rfl, n1, rfl⟩
  go_wp2_with fail
  go_ret
  exact ⟨rfl, drawn_le (by omega)⟩
theorem fSub_rd (gf p g x y : Nat) (w : World) (hf : FD w gf p g) (hx : x < Mg.R) (hy : y < Mg.R) :
    Rd 93 #[.pointer (some ⟨gf, 0, none⟩), .int .u64 x, .int .u64 y] w (.int .u64 (((x + (p - y % p)) % p : Nat) : Int)) := by
  refine Rd.of_drawn fun n => ?_
  obtain ⟨gc, hc, c0⟩ := hf.mc
  have C := Lib.hid (mSub_rd gc p x y w hc hx hy)
  clear hf
  generalize ((x + (p - y % p)) % p) = r at *
  go_enter Tryz.func93, Tryz.ntmps93
  go_wp2_with fail
  with_reducible refine (Rd.go (C.out) _).mono ?_
  rintro e_ w_ ⟨rfl, n1, rfl⟩
  go_wp2_with fail
  go_ret
  exact ⟨rfl, drawn_le (by omega)⟩
theorem fLift_rd (gf p g x : Nat) (w : World) (hf : FD w gf p g) (hx : x < Mg.R) :
    Rd 147 #[.pointer (some ⟨gf, 0, none⟩), .int .u64 x] w (.int .u64 ((Mg.mform p x : Nat) : Int)) := by
  refine Rd.of_drawn fun n => ?_
  obtain ⟨gc, hc, c0⟩ := hf.mc
  have C := Lib.hid (In_rd gc p x w hc hx)
  clear hf
  generalize (Mg.mform p x) = r at *
  go_enter Tryz.func147, Tryz.ntmps147
  go_wp2_with fail
  with_reducible refine (Rd.go (C.out) _).mono ?_
  rintro e_ w_ ⟨rfl, n1, rfl⟩
  go_wp2_with fail
  go_ret
  exact ⟨rfl, drawn_le (by omega)⟩
theorem fTimes_rd (gf p g x y : Nat) (w : World) (hf : FD w gf p g) (hx : x < Mg.R) (hy : y < Mg.R) :
    Rd 92 #[.pointer (some ⟨gf, 0, none⟩), .int .u64 x, .int .u64 y] w (.int .u64 ((Mg.mm p x y : Nat) : Int)) := by
  refine Rd.of_drawn fun n => ?_
  obtain ⟨gc, hc, c0⟩ := hf.mc
  have C := Lib.hid (mMul_rd gc p x y w hc hx hy)
  clear hf
  generalize (Mg.mm p x y) = r at *
  go_enter Tryz.func92, Tryz.ntmps92
  go_wp2_with fail
  with_reducible refine (Rd.go (C.out) _).mono ?_
  rintro e_ w_ ⟨rfl, n1, rfl⟩
  go_wp2_with fail
  go_ret
  exact ⟨rfl, drawn_le (by omega)⟩
theorem fP_rd (gf p g : Nat) (w : World) (hf : FD w gf p g) : Rd 23 #[.pointer (some ⟨gf, 0, none⟩)] w (.int .u64 (p : Int)) := by
  refine Rd.of_drawn fun n => ?_
  have c1 := hf.cp
  clear hf
  go_enter Tryz.func23, Tryz.ntmps23
  go_wp2_with fail
  go_ret
  exact ⟨rfl, Drawn.refl _⟩
theorem fGood_rd (gf p g x : Nat) (w : World) (hf : FD w gf p g) : Rd 39 #[.pointer (some ⟨gf, 0, none⟩), .int .u64 x] w (.bool (decide (x < p))) := by
  refine Rd.of_drawn fun n => ?_
  have c1 := hf.cp
  clear hf
  go_enter Tryz.func39, Tryz.ntmps39
  go_wp2_with fail
  go_ret
  exact ⟨rfl, Drawn.refl _⟩
theorem fMul_rd (gf p g x y : Nat) (w : World) (hf : FD w gf p g) (hx : x < Mg.R) (hy : y < Mg.R) :
    Rd 96 #[.pointer (some ⟨gf, 0, none⟩), .int .u64 x, .int .u64 y] w (.int .u64 ((x * y % p : Nat) : Int)) := by
  refine Rd.of_drawn fun n => ?_
  obtain ⟨gc, hc, c0⟩ := hf.mc
  have C1 := In_rd gc p x w hc hx
  have hR : p < Mg.R := by have := hc.high; simp only [Mg.R]; omega
  have C2 := mMul_rd gc p (Mg.mform p x) y w hc (Nat.lt_trans (Mg.mform_lt hc.pos x) hR) hy
  rw [Mg.mm_form hc.pos hc.odd] at C2
  clear hf hc hR
  generalize Mg.mform p x = r at *
  generalize x * y % p = s at *
  go_enter Tryz.func96, Tryz.ntmps96
  go_wp2_with fail
  go_quiet ((first | (go_at_call 104; first | exact Rd.qa (C1) _ _ | exact Rd.q (C1) _) | (go_at_call 149; first | exact Rd.qa (C2) _ _ | exact Rd.q (C2) _)))
  go_wp2_with fail
  go_ret
  exact ⟨rfl, _, rfl⟩
theorem fPow_rd (gf p g x y : Nat) (w : World) (hf : FD w gf p g) (hx : x < Mg.R) (hy : y < Mg.R) :
    Rd 57 #[.pointer (some ⟨gf, 0, none⟩), .int .u64 x, .int .u64 y] w (.int .u64 ((x ^ y % p : Nat) : Int)) := by
  refine Rd.of_drawn fun n => ?_
  obtain ⟨gc, hc, c0⟩ := hf.mc
  have C1 := In_rd gc p x w hc hx
  have hR : p < Mg.R := by have := hc.high; simp only [Mg.R]; omega
  have C2 := mPow_rd gc p x y w hc hy
  have C3 := Out_rd gc p (Mg.mform p (x ^ y)) w hc (Nat.lt_trans (Mg.mform_lt hc.pos _) hR)
  rw [Mg.mm_out hc.pos hc.odd] at C3
  clear hf hc hR
  generalize Mg.mform p x = r at *
  generalize x ^ y % p = s at *
  generalize Mg.mform p (x ^ y) = t at *
  go_enter Tryz.func57, Tryz.ntmps57
  go_wp2_with fail
  go_quiet ((first | (go_at_call 104; first | exact Rd.qa (C1) _ _ | exact Rd.q (C1) _) | (go_at_call 103; first | exact Rd.qa (C2) _ _ | exact Rd.q (C2) _) | (go_at_call 102; first | exact Rd.qa (C3) _ _ | exact Rd.q (C3) _)))
  go_wp2_with fail
  go_ret
  exact ⟨rfl, _, rfl⟩
end Go.Proofs.YtpkpadepccneeaaGreatDoor
