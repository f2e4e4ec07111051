/- The walk of the reference's Right: if it answers yes, the entry is right. No condition. -/
import Derived.Test.YtpkpadepccneeaaGreatDoorL45
import Derived.Test.YtpkpadepccneeaaGreatDoorL09
import Derived.Test.YtpkpadepccneeaaGreatDoorL43
namespace Go.Proofs.YtpkpadepccneeaaGreatDoor
open Go.RowKit
set_option linter.unusedVariables false
set_option linter.unusedSimpArgs false
def RightPost (l : List Ent) (i : Nat) (w : World) (e : Ending) (w' : World) : Prop :=
  ∃ b : Bool, e = .returned (.bool b) ∧ (b = true → right (l.take i) (l.getD i .z) = true) ∧ Below w.heap.size w w'
theorem RightPost.no (l : List Ent) (i : Nat) {w w' : World} (h : Below w.heap.size w w') : RightPost l i w (.returned (.bool false)) w' := ⟨false, rfl, fun h => (by cases h), h⟩
theorem RightPost.yes {l : List Ent} {i : Nat} {w w' : World} (hr : right (l.take i) (l.getD i .z) = true) (h : Below w.heap.size w w') : RightPost l i w (.returned (.bool true)) w' := ⟨true, rfl, fun _ => hr, h⟩
theorem rPow_rd (a e m : Nat) (ha : a < Mg.R) (he : e < Mg.R) (hm : 1 ≤ m) (hmR : m < Mg.R) (w : World) : Rd 25 #[.int .u64 a, .int .u64 e, .int .u64 m] w (.int .u64 ((a ^ e % m : Nat) : Int)) :=
  Rd.of_same fun n => rPow_any a m ha hm hmR _ e he
/-- What has been asked so far, but the factors' rows. -/
structure R1 (ah : List Ent) (x : Ent) : Prop where
  odd : x.p % 2 ≠ 0
  low : ¬ x.p < 3
  high : ¬ 9223372036854775807 < x.p
  prev : ah.length = 0 ∨ (ah.getD (ah.length - 1) .z).p < x.p
  ne : ¬ x.fs.length < 1
  le : ¬ 16 < x.fs.length
  two : (x.fs.getD 0 .z).q = 2
set_option maxRecDepth 100000 in
set_option maxHeartbeats 8000000 in
theorem rRight_any (A : Option Addr) (c i : Nat) (l : List Ent) (w : World) (hl : EI w A l) (h40 : l.length ≤ 1000) (hi : i < l.length) (hc1 : l.length ≤ c) (hc2 : c ≤ maxLen) (ho : Oks l) :
    Calls Tryz.prog 118 #[.slice A l.length c, .int .i64 i] w fun e w' => RightPost l i w e w' := by
  have hc3 : c ≤ 9223372036854775807 := hc2
  obtain ⟨b, o, F, cf, rfl, c1, c2, c3, hfl, hf⟩ := hl i hi
  have HL := Lib.hid hl
  have hpR := (ho.p i hi).1
  have hgR := (ho.p i hi).2
  have hqR := ho.q i hi
  have hah : (l.take i).length = i := by rw [List.length_take]; omega
  have HPOST := Lib.hid fun (w' : World) (h : RightR (l.take i) (l.getD i .z)) (hb : Below w.heap.size w w') => RightPost.yes (l := l) (i := i) h.right hb
  have HNO := Lib.hid fun (w' : World) (hb : Below w.heap.size w w') => RightPost.no l i hb
  have hprev : ∀ j, j + 1 = i → (l.take i).getD ((l.take i).length - 1) .z = l.getD j .z := fun j hj => by
    rw [hah, show i - 1 = j by omega, List.getD_eq_getElem?_getD, List.getElem?_take_of_lt (by omega), ← List.getD_eq_getElem?_getD]
  have HCL := Lib.hid fun (W : World) (q : Nat) (hb : Below w.heap.size w W) => (show Calls Tryz.prog 175 #[.slice (some ⟨b, o, none⟩) i c, .int .u64 q] W fun e w' => e = .returned (.bool (claimed (l.take i) q)) ∧ Below W.heap.size W w' from by
    have := rClaimed_any (some ⟨b, o, none⟩) c (l.take i) q W ((hl.take i).below hb) (by rw [hah]; omega)
    rw [hah] at this
    exact this)
  have HPREV := Lib.hid hprev
  have HAH := Lib.hid hah
  have HB0 := Lib.hid ((Below.refl w.heap.size w).alloc (Nat.le_refl _) (.cells #[.int .u64 (l.getD i .z).p, .int .u64 (l.getD i .z).g, .slice F (l.getD i .z).fs.length cf] 65))
  have K0 := Lib.hid (Blk.new w 65 #[.int .u64 (l.getD i .z).p, .int .u64 (l.getD i .z).g, .slice F (l.getD i .z).fs.length cf])
  have HF := Lib.hid hf
  have hi0 : (0 : Int) ≤ (i : Int) := by omega
  have hi1 : (i : Int) < (l.length : Int) := by omega
  clear hl hf ho hah hprev hfl hc2
  generalize l.getD i .z = x at *
  generalize hP : x.p = p at *
  generalize hG : x.g = g at *
  generalize hFS : x.fs = fs at *
  generalize hn : fs.length = nf at *
  have HPp := Lib.hid hP
  have HGg := Lib.hid hG
  have HFf := Lib.hid hFS
  have HNn := Lib.hid hn
  clear hP hG hFS hn
  by_cases d1 : p % 2 = 0
  · have q1 : ((p : Int) % 2 == 0) = true := beq_iff_eq.2 (by omega)
    clear d1
    go_enter Tryz.func118, Tryz.ntmps118
    go_wp2_with fail
    go_quiet (fail)
    go_wp2_with fail
    go_ret
    exact (HNO.out _ (below_drewN HB0.out _))
  have q1 : ((p : Int) % 2 == 0) = false := beq_eq_false_iff_ne.2 (by omega)
  by_cases d2 : p < 3
  · have q2 : decide ((p : Int) < 3) = true := decide_eq_true (by omega)
    have q2' : decide (p < 3) = true := decide_eq_true d2
    clear d1 d2
    go_enter Tryz.func118, Tryz.ntmps118
    go_wp2_with fail
    go_quiet (fail)
    go_wp2_with fail
    go_ret
    exact (HNO.out _ (below_drewN HB0.out _))
  have q2 : decide ((p : Int) < 3) = false := decide_eq_false (by omega)
  have q2' : decide (p < 3) = false := decide_eq_false d2
  by_cases d3 : 9223372036854775807 < p
  · have q3 : decide ((9223372036854775807 : Int) < (p : Int)) = true := decide_eq_true (by omega)
    have q3' : decide (9223372036854775807 < p) = true := decide_eq_true d3
    clear d1 d2 d3
    go_enter Tryz.func118, Tryz.ntmps118
    go_wp2_with fail
    go_quiet (fail)
    go_wp2_with fail
    go_ret
    exact (HNO.out _ (below_drewN HB0.out _))
  have q3 : decide ((9223372036854775807 : Int) < (p : Int)) = false := decide_eq_false (by omega)
  have q3' : decide (9223372036854775807 < p) = false := decide_eq_false d3
  refine Or.elim (Nat.eq_zero_or_pos i) (fun h0 => ?_) (fun h0 => ?_)
  focus (
    have q4 : decide ((0 : Int) < (i : Int)) = false := decide_eq_false (by omega)
    have q4' : decide (0 < i) = false := decide_eq_false (by omega)
    have HPV := Lib.hid (show (l.take i).length = 0 ∨ ((l.take i).getD ((l.take i).length - 1) .z).p < p from .inl (HAH.out.trans h0)))
  rotate_left
  focus (
    have q4 : decide ((0 : Int) < (i : Int)) = true := decide_eq_true (by omega)
    have q4' : decide (0 < i) = true := decide_eq_true h0
    obtain ⟨j, hj⟩ : ∃ j, j + 1 = i := ⟨i - 1, by omega⟩
    obtain ⟨b', o', F', cf', e', c1', _, _, _, _⟩ := HL.out j (by omega)
    simp only [Option.some.injEq, Addr.mk.injEq, and_true] at e'
    obtain ⟨rfl, rfl⟩ := e'
    have c4 := bcell HB0.out c1'
    have s1 : IntKind.i64.wrap ((i : Int) - 1) = ((j : Nat) : Int) := by rw [IntKind.wrap_i64]; omega
    have s2 : (0 : Int) ≤ (j : Int) := by omega
    have s3 : (j : Int) < (l.length : Int) := by omega
    have HPQ := Lib.hid (HPREV.out j hj)
    clear c1'
    rcases Nat.lt_or_ge (l.getD j .z).p p with d4 | d4
    rotate_left
    · have q5 : decide (((p : Int)) ≤ ((l.getD j .z).p : Int)) = true := decide_eq_true (by omega)
      have q5' : decide (p ≤ (l.getD j .z).p) = true := decide_eq_true d4
      clear d1 d2 d3 d4 hj h0
      generalize (l.getD j .z).p = pl at *
      go_enter Tryz.func118, Tryz.ntmps118
      go_wp2_with fail
      go_quiet (fail)
      go_wp2_with fail
      go_ret
      exact HNO.out _ (below_drewN HB0.out _)
    have q5 : decide (((p : Int)) ≤ ((l.getD j .z).p : Int)) = false := decide_eq_false (by omega)
    have q5' : decide (p ≤ (l.getD j .z).p) = false := decide_eq_false (by omega)
    have HPV := Lib.hid (show (l.take i).length = 0 ∨ ((l.take i).getD ((l.take i).length - 1) .z).p < p from .inr (by rw [HPQ.out]; exact d4))
    clear hj d4
    generalize (l.getD j .z).p = pl at *)
  all_goals (
    clear h0
    by_cases n1 : nf < 1
    · have g1 : decide ((nf : Int) < 1) = true := decide_eq_true (by omega)
      have g1' : decide (nf < 1) = true := decide_eq_true n1
      clear n1 d1 d2 d3
      go_enter Tryz.func118, Tryz.ntmps118
      go_wp2_with fail
      go_quiet (fail)
      go_wp2_with fail
      go_ret
      exact HNO.out _ (below_drewN HB0.out _)
    have g1 : decide ((nf : Int) < 1) = false := decide_eq_false (by omega)
    have g1' : decide (nf < 1) = false := decide_eq_false n1
    by_cases n2 : 16 < nf
    · have g2 : decide ((16 : Int) < (nf : Int)) = true := decide_eq_true (by omega)
      have g2' : decide (16 < nf) = true := decide_eq_true n2
      clear n1 n2 d1 d2 d3
      go_enter Tryz.func118, Tryz.ntmps118
      go_wp2_with fail
      go_quiet (fail)
      go_wp2_with fail
      go_ret
      exact HNO.out _ (below_drewN HB0.out _)
    have g2 : decide ((16 : Int) < (nf : Int)) = false := decide_eq_false (by omega)
    have g2' : decide (16 < nf) = false := decide_eq_false n2
    have hnf := HNn.out
    obtain ⟨fb, fo, rfl, f0, _⟩ := HF.out 0 (by omega)
    rw [Nat.zero_mul, Nat.add_zero] at f0
    have k0 := bcell HB0.out f0
    have hnf0 : (0 : Int) < (nf : Int) := by omega
    by_cases n3 : (fs.getD 0 .z).q = 2
    rotate_left
    · have g3 : (((fs.getD 0 .z).q : Int) != 2) = true := bne_iff_ne.2 (by omega)
      have g3' : ((fs.getD 0 .z).q == 2) = false := beq_eq_false_iff_ne.2 n3
      clear n1 n2 n3 d1 d2 d3 hnf
      generalize (fs.getD 0 .z).q = qq at *
      go_enter Tryz.func118, Tryz.ntmps118
      go_wp2_with fail
      go_quiet (fail)
      go_wp2_with fail
      go_ret
      exact HNO.out _ (below_drewN HB0.out _)
    rw [n3] at f0 k0
    have HR1 := Lib.hid (show R1 (l.take i) x from ⟨by rw [HPp.out]; exact d1, by rw [HPp.out]; exact d2, by rw [HPp.out]; exact d3, by rw [HPp.out]; exact HPV.out, by rw [HFf.out, HNn.out]; exact n1, by rw [HFf.out, HNn.out]; exact n2, by rw [HFf.out]; exact n3⟩)
    have CP := Lib.hid fun (W : World) (hb : Below w.heap.size w W) => (show Calls Tryz.prog 176 #[.slice (some ⟨fb, fo, none⟩) nf cf, .int .u64 ((p - 1 : Nat) : Int)] W fun e w' => ProdPost fs W e w' from by
      have := rProduct_any (some ⟨fb, fo, none⟩) cf (p - 1) fs W (HF.out.below hb) (by omega) (by omega) hqR
      rw [HNn.out] at this
      exact this)
    have hp1 := u64_dec p (by omega) hpR
    have CW := Lib.hid fun (W : World) (e : Nat) (he : e < Mg.R) => rPow_rd g e p hgR he (by omega) hpR W
    have hpm : p - 1 < Mg.R := by omega
    have HHP := Lib.hid (show 0 < p ∧ nf ≤ 16 ∧ 0 < nf from ⟨by omega, by omega, by omega⟩)
    clear n3 d1 d2 d3 n1 n2 HNn
    have HNF := Lib.hid hnf
    clear hnf
    go_enter Tryz.func118, Tryz.ntmps118
    go_wp2_with fail
    go_quiet (fail)
    go_wp2_with fail
    obtain ⟨V, hV⟩ : ∃ V, (w.alloc (.cells #[.int .u64 p, .int .u64 g, .slice (some ⟨fb, fo, none⟩) nf cf] 65)).drewN nq = V := ⟨_, rfl⟩
    rw [hV]
    have BV := Lib.hid (show Below w.heap.size w V by rw [← hV]; exact below_drewN HB0.out _)
    have KV := Lib.hid (show Blk V w.heap.size 65 #[.int .u64 p, .int .u64 g, .slice (some ⟨fb, fo, none⟩) nf cf] by rw [← hV]; exact K0.out)
    have U0 := Lib.hid (show ∀ j, j + 1 < 1 → (fs.getD j .z).q < (fs.getD (j + 1) .z).q ∧ claimed (l.take i) (fs.getD (j + 1) .z).q = true from fun j hj => by omega)
    clear hV f0 k0
    have v2 := KV.out.cell 2
    go_wp2_with fail
    go_loopw [6] (fun kv wr => ∃ k : Nat, kv = .int .i64 k ∧ 1 ≤ k ∧ k ≤ nf ∧ Hid (∀ j, j + 1 < k → (fs.getD j .z).q < (fs.getD (j + 1) .z).q ∧ claimed (l.take i) (fs.getD (j + 1) .z).q = true) ∧ Hid (Below w.heap.size w wr) ∧ Hid (Blk wr w.heap.size 65 #[.int .u64 p, .int .u64 g, .slice (some ⟨fb, fo, none⟩) nf cf])) (fun kv _ => nf - (intOf kv).toNat)
    case atStart => exact ⟨1, rfl, by omega, by have := HHP.out.2.2; omega, U0, BV, KV⟩
    case round =>
      clear U0 v2
      obtain ⟨k, rfl, hk1, hk2, HU, HB, HK⟩ := hrel
      have h16 := HHP.out.2.1
      have x0 := HK.out.cell 0
      have x1 := HK.out.cell 1
      have x2 := HK.out.cell 2
      by_cases hlt : k < nf
      · obtain ⟨j, hj⟩ : ∃ j, j + 1 = k := ⟨k - 1, by omega⟩
        obtain ⟨b1, o1, e1, f1, _⟩ := HF.out k (by rw [HNF.out]; exact hlt)
        obtain ⟨b2, o2, e2, f2, _⟩ := HF.out j (by rw [HNF.out]; omega)
        simp only [Option.some.injEq, Addr.mk.injEq, and_true] at e1 e2
        obtain ⟨rfl, rfl⟩ := e1
        obtain ⟨rfl, rfl⟩ := e2
        have k1 := bcell HB.out f1
        have k2 := bcell HB.out f2
        have s1 : IntKind.i64.wrap ((k : Int) - 1) = ((j : Nat) : Int) := by have := HHP.out.2.1; rw [IntKind.wrap_i64]; omega
        have s2 : (0 : Int) ≤ (j : Int) := by omega
        have s3 : (j : Int) < (nf : Int) := by omega
        have s4 : (0 : Int) ≤ (k : Int) := by omega
        have s5 : (k : Int) < (nf : Int) := by omega
        have s6 : (i : Int) ≤ (c : Int) := by omega
        have CC := Lib.hid (HCL.out wr.drew (fs.getD k .z).q HB.out.drew)
        have HSTEP := Lib.hid (show (fs.getD j .z).q < (fs.getD k .z).q → claimed (l.take i) (fs.getD k .z).q = true → ∀ j', j' + 1 < k + 1 → (fs.getD j' .z).q < (fs.getD (j' + 1) .z).q ∧ claimed (l.take i) (fs.getD (j' + 1) .z).q = true from fun a1 a2 j' hj' => by
          by_cases e : j' = j
          · subst e; rw [hj]; exact ⟨a1, a2⟩
          · exact HU.out j' (by omega))
        clear f1 f2 hj
        generalize hcl : claimed (l.take i) (fs.getD k .z).q = cl at *
        generalize (fs.getD k .z).q = qk at *
        generalize (fs.getD j .z).q = qj at *
        have HCLM := Lib.hid hcl
        clear hcl
        by_cases hle : qk ≤ qj
        · have l0 : decide ((qk : Int) ≤ (qj : Int)) = true := decide_eq_true (by omega)
          have l0' : decide (qk ≤ qj) = true := decide_eq_true hle
          clear hle
          go_wp2_with fail
          go_quiet (fail)
          go_wp2_with fail
          go_ret
          exact HNO.out _ (below_drewN HB.out _)
        · have l0 : decide ((qk : Int) ≤ (qj : Int)) = false := decide_eq_false (by omega)
          have l0' : decide (qk ≤ qj) = false := decide_eq_false hle
          have hlt2 : qj < qk := by omega
          have HBd := Lib.hid HB.out.drew
          have HKd := Lib.hid (show Blk wr.drew w.heap.size 65 #[.int .u64 p, .int .u64 g, .slice (some ⟨fb, fo, none⟩) nf cf] from HK.out)
          have HLT2 := Lib.hid hlt2
          clear hle hlt2
          go_wp2_with fail
          have hS : wr.cell? ⟨w.heap.size, 2, none⟩ = some (.slice (some ⟨fb, fo, none⟩) nf cf) ∧ wr.cell? ⟨fb, fo + k * 2, none⟩ = some (.int .u64 (qk : Int)) ∧ wr.cell? ⟨fb, fo + j * 2, none⟩ = some (.int .u64 (qj : Int)) := ⟨x2, k1, k2⟩
          have hS2 := Lib.hid hS
          go_region_held3 (fun W' => W'.cell? ⟨w.heap.size, 2, none⟩ = some (.slice (some ⟨fb, fo, none⟩) nf cf) ∧ W'.cell? ⟨fb, fo + k * 2, none⟩ = some (.int .u64 (qk : Int)) ∧ W'.cell? ⟨fb, fo + j * 2, none⟩ = some (.int .u64 (qj : Int))) (first | exact hS | go_keep)
            (first | (go_at_call 175; refine CC.out.mono ?_; rintro e_ U2 ⟨rfl, hb2⟩; (have HB2 := Lib.hid (below_then HBd.out HBd.out.size hb2)); (have HK2 := Lib.hid (HKd.out.below hb2 HKd.out.lt)); (have hS : U2.cell? ⟨w.heap.size, 2, none⟩ = some (.slice (some ⟨fb, fo, none⟩) nf cf) ∧ U2.cell? ⟨fb, fo + k * 2, none⟩ = some (.int .u64 (qk : Int)) ∧ U2.cell? ⟨fb, fo + j * 2, none⟩ = some (.int .u64 (qj : Int)) := ⟨bcell hb2 hS2.out.1, bcell hb2 hS2.out.2.1, bcell hb2 hS2.out.2.2⟩); clear hb2))
          cases cl with
          | false =>
            go_wp2_with fail
            go_ret
            exact HNO.out _ HB2.out
          | true =>
            have HU2 := Lib.hid (HSTEP.out HLT2.out rfl)
            go_wp2_with fail
            go_roundw
            case rel => exact ⟨k + 1, by go_num, by omega, by omega, HU2, HB2, HK2⟩
            case measure => simp [intOf]; omega
      · have hkk : k = nf := by omega
        subst hkk
        have kk0 : decide ((k : Int) < (k : Int)) = false := decide_eq_false (by omega)
        go_wp2_with fail
        with_reducible refine (CP.out wr HB.out).mono ?_
        rintro e_ w2 ⟨n, ok, rfl, hok, hb2⟩
        have B2 := Lib.hid (below_then HB.out HB.out.size hb2)
        have K2 := Lib.hid (HK.out.below hb2 HK.out.lt)
        have HOK := Lib.hid hok
        clear hok hb2 x0 x1 x2
        have y0 := K2.out.cell 0
        have y1 := K2.out.cell 1
        have y2 := K2.out.cell 2
        cases ok with
        | false =>
          go_wp2_with fail
          go_ret
          exact HNO.out _ B2.out
        | true =>
          have HPO := Lib.hid (HOK.out rfl)
          by_cases m1 : n = p - 1
          rotate_left
          · have z1 : ((n : Int) != ((p - 1 : Nat) : Int)) = true := bne_iff_ne.2 (by omega)
            have z1' : (n == p - 1) = false := beq_eq_false_iff_ne.2 m1
            clear m1
            generalize p - 1 = p1 at *
            go_wp2_with fail
            go_ret
            exact HNO.out _ B2.out
          have HM1 := Lib.hid m1
          have z1 : ((n : Int) != ((p - 1 : Nat) : Int)) = false := by rw [m1]; simp
          clear m1
          by_cases m2 : g < 2
          · have z2 : decide ((g : Int) < 2) = true := decide_eq_true (by omega)
            have z2' : decide (g < 2) = true := decide_eq_true m2
            generalize p - 1 = p1 at *
            go_wp2_with fail
            go_ret
            exact HNO.out _ B2.out
          have z2 : decide ((g : Int) < 2) = false := decide_eq_false (by omega)
          have z2' : decide (g < 2) = false := decide_eq_false m2
          by_cases m3 : p ≤ g
          · have z3 : decide ((p : Int) ≤ (g : Int)) = true := decide_eq_true (by omega)
            have z3' : decide (p ≤ g) = true := decide_eq_true m3
            generalize p - 1 = p1 at *
            go_wp2_with fail
            go_ret
            exact HNO.out _ B2.out
          have z3 : decide ((p : Int) ≤ (g : Int)) = false := decide_eq_false (by omega)
          have z3' : decide (p ≤ g) = false := decide_eq_false m3
          have HM2 := Lib.hid m2
          have HM3 := Lib.hid m3
          have C1 := Lib.hid (CW.out w2 (p - 1) hpm)
          have HQ2 := Lib.hid (show ∀ j, j < k → 2 ≤ (fs.getD j .z).q from fun j hj => (HPO.out.ok j (by rw [HNF.out]; exact hj)).2.2)
          have HFIN := Lib.hid (show n = p - 1 → g ^ (p - 1) % p = 1 → (∀ j, j < k → g ^ ((p - 1) / (fs.getD j .z).q) % p ≠ 1) → RightR (l.take i) x from fun a1 a2 a3 => by
            have r := HR1.out
            have hp' := HPO.out
            rw [a1] at hp'
            refine ⟨r.odd, r.low, r.high, r.prev, r.ne, r.le, r.two, ?_, ?_, ?_, ?_, ?_, ?_⟩
            · rw [HFf.out, HNF.out]; exact HU.out
            · rw [HFf.out, HPp.out]; exact hp'
            · rw [HGg.out]; exact HM2.out
            · rw [HGg.out, HPp.out]; exact HM3.out
            · rw [HGg.out, HPp.out]; exact a2
            · rw [HFf.out, HNF.out, HGg.out, HPp.out]; exact a3)
          clear m2 m3 HOK
          by_cases m4 : g ^ (p - 1) % p = 1
          rotate_left
          · have z4 : (((g ^ (p - 1) % p : Nat) : Int) != 1) = true := bne_iff_ne.2 (by omega)
            have z4' : (g ^ (p - 1) % p == 1) = false := beq_eq_false_iff_ne.2 m4
            clear m4 HFIN
            generalize g ^ (p - 1) % p = r at *
            generalize p - 1 = p1 at *
            go_wp2_with fail
            with_reducible refine (C1.out.now).mono ?_
            rintro e_ w_ ⟨rfl, k9, rfl⟩
            go_wp2_with fail
            go_ret
            exact HNO.out _ (below_drewN B2.out _)
          have HM4 := Lib.hid m4
          rw [m4] at C1
          clear m4
          go_wp2_with fail
          with_reducible refine (C1.out.now).mono ?_
          rintro e_ w_ ⟨rfl, k9, rfl⟩
          obtain ⟨V3, hV3⟩ : ∃ V3, w2.drewN k9 = V3 := ⟨_, rfl⟩
          have B3 := Lib.hid (show Below w.heap.size w V3 by rw [← hV3]; exact below_drewN B2.out _)
          have K3 := Lib.hid (show Blk V3 w.heap.size 65 #[.int .u64 p, .int .u64 g, .slice (some ⟨fb, fo, none⟩) k cf] by rw [← hV3]; exact K2.out)
          rw [hV3]
          clear hV3 y0 y1 y2 C1
          have y2 := K3.out.cell 2
          have N0 := Lib.hid (show ∀ j, j < 0 → g ^ ((p - 1) / (fs.getD j .z).q) % p ≠ 1 from fun j hj => by omega)
          go_wp2_with fail
          go_loopw [140] (fun jv wr => ∃ j : Nat, jv = .int .i64 j ∧ j ≤ k ∧ Hid (∀ t, t < j → g ^ ((p - 1) / (fs.getD t .z).q) % p ≠ 1) ∧ Hid (Below w.heap.size w wr) ∧ Hid (Blk wr w.heap.size 65 #[.int .u64 p, .int .u64 g, .slice (some ⟨fb, fo, none⟩) k cf])) (fun jv _ => k - (intOf jv).toNat)
          case atStart => exact ⟨0, rfl, by omega, N0, B3, K3⟩
          case round =>
            clear N0 y2 B3 K3
            obtain ⟨j, rfl, hj, HN, HB4, HK4⟩ := hrel
            by_cases hjk : j < k
            · obtain ⟨b1, o1, e1, f1, f2⟩ := HF.out j (by rw [HNF.out]; exact hjk)
              simp only [Option.some.injEq, Addr.mk.injEq, and_true] at e1
              obtain ⟨rfl, rfl⟩ := e1
              have k1 := bcell HB4.out f1
              have k2 := bcell HB4.out f2
              have hq2 := HQ2.out j hjk
              have hle := Nat.div_le_self (p - 1) (fs.getD j .z).q
              have HNX := Lib.hid (show g ^ ((p - 1) / (fs.getD j .z).q) % p ≠ 1 → ∀ t, t < j + 1 → g ^ ((p - 1) / (fs.getD t .z).q) % p ≠ 1 from fun h t ht => by
                by_cases e : t = j
                · subst e; exact h
                · exact HN.out t (by omega))
              have u1 : (0 : Int) ≤ (j : Int) := by omega
              have u2 : (j : Int) < (k : Int) := by omega
              clear f1 f2
              generalize (fs.getD j .z).q = q at *
              generalize (fs.getD j .z).e = e at *
              have hb5 := (Below.refl wr.heap.size wr).alloc (Nat.le_refl _) (.cells #[.int .u64 (q : Int), .int .i64 e] 129)
              have B5 := Lib.hid (below_then HB4.out HB4.out.size hb5)
              have K5 := Lib.hid (HK4.out.alloc (.cells #[.int .u64 (q : Int), .int .i64 e] 129))
              have J5 := Lib.hid (Blk.new wr 129 #[.int .u64 (q : Int), .int .i64 e])
              have C5 := Lib.hid (CW.out (wr.alloc (.cells #[.int .u64 (q : Int), .int .i64 e] 129)) ((p - 1) / q) (by omega))
              have w5 : ((p - 1 : Nat) : Int) / (q : Int) = (((p - 1) / q : Nat) : Int) := (Int.natCast_ediv _ _).symm
              have w6 : IntKind.u64.wrap (((p - 1) / q : Nat) : Int) = (((p - 1) / q : Nat) : Int) := w_small (Int.natCast_nonneg _) (by simp only [Mg.R] at hpm; omega)
              have w7 : ¬ (q : Int) = 0 := by omega
              have w7' : ¬ q = 0 := by omega
              clear hb5 hle hq2
              by_cases hh : g ^ ((p - 1) / q) % p = 1
              · rw [hh] at C5
                clear hh HNX HFIN
                generalize (p - 1) / q = dv at *
                generalize p - 1 = p1 at *
                go_upto_region 17 with fail
                generalize wr.alloc (.cells #[.int .u64 (q : Int), .int .i64 e] 129) = W5 at *
                generalize wr.heap.size = b5 at *
                have m0 := K5.out.cell 0
                have m1 := K5.out.cell 1
                have m2 := J5.out.cell 0
                go_quiet ((go_at_call 25; first | exact Rd.qa (C5.out) _ _ | exact Rd.q (C5.out) _))
                go_wp2_with fail
                go_ret
                exact HNO.out _ (below_drewN B5.out _)
              · have HN2 := Lib.hid (HNX.out hh)
                have z5 : (((g ^ ((p - 1) / q) % p : Nat) : Int) == 1) = false := beq_eq_false_iff_ne.2 (by omega)
                have z5' : (g ^ ((p - 1) / q) % p == 1) = false := beq_eq_false_iff_ne.2 hh
                clear hh HNX HFIN
                generalize g ^ ((p - 1) / q) % p = r at *
                generalize (p - 1) / q = dv at *
                generalize hp1e : p - 1 = p1 at *
                go_upto_region 17 with fail
                generalize wr.alloc (.cells #[.int .u64 (q : Int), .int .i64 e] 129) = W5 at *
                generalize wr.heap.size = b5 at *
                have m0 := K5.out.cell 0
                have m1 := K5.out.cell 1
                have m2 := J5.out.cell 0
                go_quiet ((go_at_call 25; first | exact Rd.qa (C5.out) _ _ | exact Rd.q (C5.out) _))
                go_wp2_with fail
                go_roundw
                case rel => exact ⟨j + 1, by go_num, by omega, by subst hp1e; exact HN2, Lib.hid (below_drewN B5.out _), K5⟩
                case measure => simp [intOf]; omega
            · have hjj : j = k := by omega
              subst hjj
              have HY := Lib.hid (HPOST.out wr (HFIN.out HM1.out HM4.out HN.out) HB4.out)
              have jj0 : decide ((j : Int) < (j : Int)) = false := decide_eq_false (by omega)
              go_wp2_with fail
              go_ret
              exact HY.out)
end Go.Proofs.YtpkpadepccneeaaGreatDoor
