/- The walk of chapter 8's Check, the program's. No condition. -/
import Derived.Test.YtpkpadepccneeaaGreatDoorL20
import Derived.Test.YtpkpadepccneeaaGreatDoorL22
import Derived.Sort.CutIn
import Derived.Deep.RegionLaw
import Derived.Deep.AppendLies
import Derived.Test.YtpkpadepccneeaaGreatDoorL13
namespace Go.Proofs.YtpkpadepccneeaaGreatDoor.W
set_option maxRecDepth 100000
set_option linter.unusedVariables false
set_option linter.unusedSimpArgs false
open Go Go.RowKit Go.Shelf
attribute [local go_sem] Oper.semAt_some
theorem madeFlags (n : Nat) : madeCells #[Value.bool false] n = flags (List.replicate n false) := by
  apply Array.toList_inj.1
  rw [toList_madeCells_one]
  simp [flags]
theorem info4 : (Tryz.prog.info? 4).map (fun i => (i.zero, i.size, i.bytes)) = some (some (.bool false), 1, 1) := by kernel_rfl
theorem under74 : Tryz.prog.underlying 217 = some (.slice 4) := by kernel_rfl
theorem make74 (n : Nat) (hn : n ≤ 4096) (W : World) : (Instr.makeSlice 217 (.int .i64 (n : Int)) (.int .i64 (n : Int))).run Tryz.prog W = .ok (.slice (some ⟨W.heap.size, 0, none⟩) n n) (W.alloc (.cells (flags (List.replicate n false)) 4)) := by
  obtain ⟨i0, h1, h2, h3, h4⟩ := info_parts info4
  have h := run_make (P := Tryz.prog) W 217 4 i0 (.bool false) under74 h1 h2 .i64 .i64 (n : Int) (n : Int) (by omega) (Int.le_refl _) (by rw [h4]; omega) (by omega)
  rw [h3] at h
  simp only [Int.toNat_natCast, Nat.mul_one] at h
  rw [h]
  show Result.ok _ (W.alloc (.cells (madeCells #[Value.bool false] n) 4)) = _
  rw [madeFlags]
set_option maxHeartbeats 4000000 in
theorem Check_any (o : Int) (A B : Option Addr) (cp cq : Nat) (l s : List Int) (c : Int) (w : World) (hr : RI .i64 w A l) (hs : RI .i64 w B s) (hm : l.length ≤ 9223372036854775807) (hms : s.length ≤ 9223372036854775807) :
    Calls Tryz.prog 75 #[.agg (view o A l.length cp B s.length cq), .int .i64 c] w fun e w' => e = .returned (.int .i64 (V.check o l s c)) ∧ Below w.heap.size w w' := by
  have hr' := Lib.hid hr
  have hs' := Lib.hid hs
  have HC := Lib.hid (show V.check o l s c = if l.length ≠ s.length ∨ c < 0 ∨ 4096 < c then 1 else if (S.sizeS l).2 ≠ 0 then (S.sizeS l).2 else V.chk (V.cellOf o l s) (sizeN l) c from rfl)
  have HFAR := Lib.hid (V.check_far o l s c)
  generalize V.check o l s c = R at *
  clear hr hs
  refine (callsIn_wide (n := 9)).1 ?_
  refine callsIn_of_wp_marks Tryz.func75 rfl trivial ?_ rfl
  simp only [Tryz.ntmps75, List.size_toArray, List.length_cons, List.length_nil, Nat.reduceAdd, Nat.reduceSub, Array.replicate_succ, Array.replicate_zero, List.push_toArray, List.append_toArray, List.nil_append, List.cons_append]
  have Z2 := Blk.new w 41 (view o A l.length cp B s.length cq)
  have Z3 := Blk.new (w.alloc (.cells (view o A l.length cp B s.length cq) 41)) 3 #[.int .i64 c]
  have Z4 := Blk.new ((w.alloc (.cells (view o A l.length cp B s.length cq) 41)).alloc (.cells #[.int .i64 c] 3)) 39 #[.int .i64 0]
  rw [World.size_alloc] at Z3
  rw [World.size_alloc, World.size_alloc] at Z4
  have HZ2 := Lib.hid ((Z2.alloc (.cells #[.int .i64 c] 3)).alloc (.cells #[.int .i64 0] 39))
  have HZ3 := Lib.hid (Z3.alloc (.cells #[.int .i64 0] 39))
  have HZ4 := Lib.hid Z4
  have HZB := Lib.hid (show Below w.heap.size w (((w.alloc (.cells (view o A l.length cp B s.length cq) 41)).alloc (.cells #[.int .i64 c] 3)).alloc (.cells #[.int .i64 0] 39)) from (((Below.refl _ _).alloc (Nat.le_refl _) _).alloc (by simp) _).alloc (by simp; omega) _)
  have HBV := Lib.hid (show ∀ v, Below w.heap.size w (((w.alloc (.cells (view o A l.length cp B s.length cq) 41)).alloc (.cells #[.int .i64 c] 3)).alloc (.cells #[v] 39)) from fun v => (((Below.refl _ _).alloc (Nat.le_refl _) _).alloc (by simp) _).alloc (by simp; omega) _)
  clear Z2 Z3 Z4
  have HR1 := Lib.hid (hr'.out.below HZB.out)
  have HS1 := Lib.hid (hs'.out.below HZB.out)
  by_cases h1 : l.length = s.length
  · have hb : ((l.length : Int) != (s.length : Int)) = false := by simp [h1]
    have hb2 : ((l.length : Int) == (s.length : Int)) = true := by simp [h1]
    have HL := Lib.hid h1
    by_cases h2 : c < 0
    · have hb3 : decide (c < 0) = true := by simp; omega
      have HRR := Lib.hid (HC.out.trans (if_pos (by omega))).symm
      clear HC h1 HFAR
      have HBE := Lib.hid (HBV.out (.int .i64 1))
      gi_wp2
      exact ⟨.int .i64 1, by simp [results, Tryz.results75, go_sem], ret_int HRR.out, HBE.out⟩
    · have hb3 : decide (c < 0) = false := by simp; omega
      by_cases h3 : 4096 < c
      · have hb4 : decide (4096 < c) = true := by simp; omega
        have HRR := Lib.hid (HC.out.trans (if_pos (by omega))).symm
        clear HC h1 HFAR
        have HBE := Lib.hid (HBV.out (.int .i64 1))
        gi_wp2
        exact ⟨.int .i64 1, by simp [results, Tryz.results75, go_sem], ret_int HRR.out, HBE.out⟩
      · have HC2 := Lib.hid (HC.out.trans (if_neg (by omega)))
        have hb4 : decide (4096 < c) = false := by simp; omega
        have CS := Lib.hid (size_any A cp l _ HR1.out hm)
        clear HC h1
        by_cases hok : S.Ok l
        · obtain ⟨n, rfl⟩ : ∃ n : Nat, c = (n : Int) := ⟨c.toNat, by omega⟩
          have CN := Lib.hid (near_any o A B cp cq l s n _ HR1.out HS1.out HL.out.symm hms (by omega) (by omega))
          have hN := sizeN_ok hok
          rw [hok.size] at CS HC2
          have HP := Lib.hid (HC2.out.trans (if_neg (by simp)))
          clear HC2
          by_cases hnear : V.near o l s n
          · rw [V.nearB_true hnear] at CN
            have HNR := Lib.hid hnear
            have HN := Lib.hid hN
            have HMK := Lib.hid fun (W : World) => make74 n (by omega) W
            have HOK := Lib.hid hok
            clear HFAR hnear hN hok
            gi_wp2
            refine ⟨trivial, ?_⟩
            refine (callsIn_wide.2 CS.out).mono ?_
            rintro e w' ⟨rfl, rfl⟩
            gi_wp2
            refine ⟨trivial, ?_⟩
            refine (callsIn_wide.2 CN.out).mono ?_
            rintro e w1 ⟨rfl, hb1⟩
            have HK2 := Lib.hid (HZ2.out.below hb1 (by simp; omega))
            have HK3 := Lib.hid (HZ3.out.below hb1 (by simp))
            have HK4 := Lib.hid (HZ4.out.below hb1 (by simp))
            have HB1 := Lib.hid (below_then HZB.out HZB.out.size hb1)
            clear hb1 CS CN
            have c2 := HK2.out.cell 0
            have c21 := HK2.out.cell 1
            have c22 := HK2.out.cell 2
            have c3 := HK3.out.cell 0
            have hmk := HMK.out w1
            have Z5 := Blk.new w1 4 (flags (List.replicate n false))
            obtain ⟨FL, hFL⟩ : ∃ FL, flags (List.replicate n false) = FL := ⟨_, rfl⟩
            rw [hFL] at hmk Z5
            have HFL := Lib.hid hFL
            clear hFL
            have Z7 := Blk.new (w1.alloc (.cells FL 4)) 217 #[.slice (some ⟨w1.heap.size, 0, none⟩) n n]
            have Z8 := Blk.new ((w1.alloc (.cells FL 4)).alloc (.cells #[.slice (some ⟨w1.heap.size, 0, none⟩) n n] 217)) 4 #[.bool false]
            have ZX := Blk.new (((w1.alloc (.cells FL 4)).alloc (.cells #[.slice (some ⟨w1.heap.size, 0, none⟩) n n] 217)).alloc (.cells #[.bool false] 4)) 27 #[.slice A l.length cp]
            rw [World.size_alloc] at Z7
            rw [World.size_alloc, World.size_alloc] at Z8
            rw [World.size_alloc, World.size_alloc, World.size_alloc] at ZX
            have HS2 := Lib.hid HK4.out.lt
            have HV2 := Lib.hid (((HK2.out.alloc (.cells FL 4)).alloc (.cells #[.slice (some ⟨w1.heap.size, 0, none⟩) n n] 217)).alloc (.cells #[.bool false] 4))
            have HV3 := Lib.hid (((HK3.out.alloc (.cells FL 4)).alloc (.cells #[.slice (some ⟨w1.heap.size, 0, none⟩) n n] 217)).alloc (.cells #[.bool false] 4))
            have HV4 := Lib.hid (((HK4.out.alloc (.cells FL 4)).alloc (.cells #[.slice (some ⟨w1.heap.size, 0, none⟩) n n] 217)).alloc (.cells #[.bool false] 4))
            have V2 := Lib.hid (HV2.out.alloc (.cells #[.slice A l.length cp] 27))
            have V3 := Lib.hid (HV3.out.alloc (.cells #[.slice A l.length cp] 27))
            have V4 := Lib.hid (HV4.out.alloc (.cells #[.slice A l.length cp] 27))
            have V5 := Lib.hid (((Z5.alloc (.cells #[.slice (some ⟨w1.heap.size, 0, none⟩) n n] 217)).alloc (.cells #[.bool false] 4)).alloc (.cells #[.slice A l.length cp] 27))
            have V7 := Lib.hid ((Z7.alloc (.cells #[.bool false] 4)).alloc (.cells #[.slice A l.length cp] 27))
            have V8 := Lib.hid (Z8.alloc (.cells #[.slice A l.length cp] 27))
            have VX := Lib.hid ZX
            have VB := Lib.hid (show Below w.heap.size w ((((w1.alloc (.cells FL 4)).alloc (.cells #[.slice (some ⟨w1.heap.size, 0, none⟩) n n] 217)).alloc (.cells #[.bool false] 4)).alloc (.cells #[.slice A l.length cp] 27)) from by
              have hsz := HB1.out.size
              exact ((((HB1.out).alloc hsz _).alloc (by simp; omega) _).alloc (by simp; omega) _).alloc (by simp; omega) _)
            have VS := Lib.hid (show ((((w1.alloc (.cells FL 4)).alloc (.cells #[.slice (some ⟨w1.heap.size, 0, none⟩) n n] 217)).alloc (.cells #[.bool false] 4)).alloc (.cells #[.slice A l.length cp] 27)).heap.size = w1.heap.size + 4 by simp)
            clear Z5 Z7 Z8 ZX HMK
            have e21 := HV2.out.cell 1
            gi_wp2
            refine ⟨trivial, ?_⟩
            refine (callsIn_wide.2 (All_any _ _ _ _)).mono ?_
            rintro e w' ⟨rfl, rfl⟩
            gi_wp2
            have HCF := Lib.hid (show ∀ x, V.cellOf o l s x = V.cellR o s (S.pad (S.atL l x)) s.length from fun x => rfl)
            have HCS := Lib.hid fun (x : Nat) => V.cell_same o l s (S.pad (S.atL l x)) n (by omega) HNR.out (fun k => (V.pad_small_any HOK.out x k).1) (fun k _ h => (V.pad_small_any HOK.out x k).2.2 h) s.length (Nat.le_refl _)
            have HSM := Lib.hid fun (x : Nat) => V.pad_small_any HOK.out x
            have h4 := HOK.out.1
            have h4s : s.length ≤ 4 := by rw [← HL.out]; exact h4
            have HSW := Lib.hid HS2.out
            have HDZ := Lib.hid (V.dup_zero (V.through (V.cellOf o l s) []))
            have HSZ := Lib.hid (V.Seen.zero (V.through (V.cellOf o l s) []) n)
            clear HZ2 HZ3 HZ4 HZB HBV HR1 HS1 HK2 HK3 HK4 HV2 HV3 HV4 c2 c21 c22 c3 e21 hmk hb hb2 hb3 hb4 HB1
            generalize ((((w1.alloc (.cells FL 4)).alloc (.cells #[.slice (some ⟨w1.heap.size, 0, none⟩) n n] 217)).alloc (.cells #[.bool false] 4)).alloc (.cells #[.slice A l.length cp] 27)) = VW at *
            have hVS := VS.out
            have hS2 := HSW.out
            generalize w1.heap.size = s1 at *
            generalize V.cellOf o l s = f at *
            refine RangeC.range_law (n := 9) (gf := 134) (lb := #[.pointer (some ⟨s1 + 1 + 1 + 1, 0, none⟩)]) rfl (by omega) rfl trivial (enters_of Tryz.func134 (by kernel_rfl) rfl)
              (All1_stops 8 (by omega) (s1 + 1 + 1 + 1) A cp l w VW hr'.out hm VB.out VX.out) Keep.trans
              (fun W o o' h => keep_putObj _ _ _ _ _ _ (by omega) (by omega) (by omega)) (Below.refl _ _) (fun _ => rfl)
              (fun pre W => Hid (Blk W w.heap.size 41 (view o A l.length cp B s.length cq)) ∧ Hid (Blk W (w.heap.size + 1) 3 #[.int .i64 n]) ∧ Hid (Blk W (w.heap.size + 1 + 1) 39 #[.int .i64 0]) ∧ Hid (Blk W (s1 + 1) 217 #[.slice (some ⟨s1, 0, none⟩) n n]) ∧
                (∃ fs : List Bool, fs.length = n ∧ Hid (V.Seen (V.through f pre) pre.length fs) ∧ Hid (Blk W s1 4 (flags fs))) ∧ Hid (Blk W (s1 + 1 + 1) 4 #[.bool (V.dupB (V.through f pre) pre.length)]) ∧
                Hid (∀ j, j < pre.length → 0 ≤ V.through f pre j ∧ V.through f pre j < n) ∧ Hid (Below w.heap.size w W))
              (fun c pre W => c = .ret ∧ (∃ j, j < pre.length ∧ ¬ (0 ≤ V.through f pre j ∧ V.through f pre j < n)) ∧ Hid (Blk W (w.heap.size + 1 + 1) 39 #[.int .i64 6]) ∧ Hid (Below w.heap.size w W))
              (fun pre X Y row hs hg hr => ⟨Lib.hid (hs.1.out.kept hg hr (by omega) (by omega)), Lib.hid (hs.2.1.out.kept hg hr (by omega) (by omega)), Lib.hid (hs.2.2.1.out.kept hg hr (by omega) (by omega)), Lib.hid (hs.2.2.2.1.out.kept hg hr (by omega) (by omega)), (by
                obtain ⟨fs, h1, h2, h3⟩ := hs.2.2.2.2.1
                exact ⟨fs, h1, h2, Lib.hid (h3.out.kept hg hr (by omega) (by omega))⟩), Lib.hid (hs.2.2.2.2.2.1.out.kept hg hr (by omega) (by omega)), hs.2.2.2.2.2.2.1, Lib.hid (below_kept hs.2.2.2.2.2.2.2.out (Nat.le_refl _) hg hr (by omega) (by omega))⟩)
              (fun c pre X Y row hs hg hr => ⟨hs.1, hs.2.1, Lib.hid (hs.2.2.1.out.kept hg hr (by omega) (by omega)), Lib.hid (below_kept hs.2.2.2.out (Nat.le_refl _) hg hr (by omega) (by omega))⟩)
              ⟨V2, V3, V4, V7, ⟨List.replicate n false, List.length_replicate .., HSZ, Lib.hid (by rw [HFL.out]; exact V5.out)⟩, Lib.hid (by rw [show V.dupB (V.through f []) ([] : List Nat).length = false from HDZ.out]; exact V8.out), Lib.hid (fun j hj => absurd hj (by simp)), VB⟩
              (fun x a' W => ∃ g, s1 + 4 ≤ g ∧ Blk W g 170 (idx l x) ∧ a' = { tmps := #[.agg (view o A l.length cp B s.length cq), .int .i64 n, .pointer (some ⟨w.heap.size, 0, none⟩), .pointer (some ⟨w.heap.size + 1, 0, none⟩), .pointer (some ⟨w.heap.size + 1 + 1, 0, none⟩), .int .i64 (S.prod l), .int .i64 0, .pointer (some ⟨s1 + 1, 0, none⟩), .pointer (some ⟨s1 + 1 + 1, 0, none⟩), undef, .pointer (some ⟨g, 0, none⟩), undef,
                .pointer (some ⟨w.heap.size, 1, none⟩), .slice A l.length cp, .int .i64 l.length, .pointer (some ⟨w.heap.size, 2, none⟩), .slice B s.length cq, .int .i64 s.length, .bool false, .bool false, .int .i64 n, .bool false, .bool false, .bool false, .int .i64 n, .bool false, .bool false, .tuple #[.int .i64 (S.prod l), .int .i64 0],
                .pointer (some ⟨w.heap.size, 1, none⟩), .slice A l.length cp, .tuple #[.int .i64 (S.prod l), .int .i64 0], .int .i64 (S.prod l), .int .i64 0, .int .i64 0, .bool false, undef, .agg (view o A l.length cp B s.length cq), .int .i64 n, .bool true, .bool false, .int .i64 n, .slice (some ⟨s1, 0, none⟩) n n,
                .pointer (some ⟨w.heap.size, 1, none⟩), .slice A l.length cp, .func (.func 134) #[] #[.pointer (some ⟨s1 + 1 + 1 + 1, 0, none⟩)], .int .i64 x, .agg (idx l x), undef, undef, undef, undef, undef, undef, undef, undef, undef, undef, undef, undef, undef, undef, undef, undef, undef, undef, undef, undef, undef], defers := [] })
              (fun x a' W o o' h ho ⟨g, h1, h2, h3⟩ => ⟨g, h1, h2.record h ho, h3⟩)
              ?assign ?body ?done ?stop
            case assign =>
              intro L pre x W K hi ho hK
              obtain ⟨a, b, c, d, hx⟩ : ∃ a b c d, idx l x = four a b c d := ⟨_, _, _, _, rfl⟩
              rw [hx] at hK ⊢
              have hW : s1 + 4 + 1 < W.heap.size := by
                obtain ⟨o, ho⟩ := ho
                have := (Array.getElem?_eq_some_iff.1 ho).1
                omega
              have HK := Lib.hid hK
              have HI := Lib.hid hi
              clear hK hi ho
              gi_wp2
              obtain ⟨I2, I3, I4, I7, ⟨fs, hfl, hse, I5⟩, I8, hin, IB⟩ := HI.out
              exact HK.out _ _ ((KeepsOthers.alloc _ _).from _) (Keep.alloc _ _ _ _ (by omega) _)
                ⟨Lib.hid (I2.out.alloc _), Lib.hid (I3.out.alloc _), Lib.hid (I4.out.alloc _), Lib.hid (I7.out.alloc _), ⟨fs, hfl, hse, Lib.hid (I5.out.alloc _)⟩, Lib.hid (I8.out.alloc _), hin, Lib.hid (IB.out.alloc IB.out.size _)⟩
                ⟨W.heap.size, by omega, Blk.new _ _ _, rfl⟩
            case body =>
              rintro L pre x a' W ⟨o', ho⟩ ⟨I2, I3, I4, I7, ⟨fs, hfl, HSE, I5⟩, I8, HIN, IB⟩ ⟨g, hg, hGB, rfl⟩ hlen _
              obtain ⟨a, b, c', d, hx⟩ := list_four (S.pad_length (x := S.atL l x) (by rw [S.atL_length]; exact h4))
              have hi : idx l x = four a b c' d := by unfold idx; rw [hx]; rfl
              rw [hi] at hGB ⊢
              have hsm := HSM.out x
              rw [hx] at hsm
              have CC := cell_any o A B cp cq l s n a b c' d W (hs'.out.below IB.out) h4s (by omega) (by omega) HNR.out (fun k => ⟨(hsm k).1, (hsm k).2.1⟩) (fun k _ h => (hsm k).2.2 h)
              have hcs := HCS.out x
              rw [hx] at hcs
              have hcf := HCF.out x
              rw [hx] at hcf
              rw [hcs, ← hcf] at CC
              have CC := Lib.hid CC
              clear hcs hcf hsm hx
              have c2 := I2.out.cell 0
              have c21 := I2.out.cell 1
              have c22 := I2.out.cell 2
              have g0 := hGB.cell 0
              have g1 := hGB.cell 1
              have g2 := hGB.cell 2
              have g3 := hGB.cell 3
              clear hi hGB ho
              gi_wp2
              refine ⟨trivial, ?_⟩
              refine (CallsIn.inRound L (callsIn_wide.2 CC.out)).mono ?_
              rintro e U ⟨rfl, hbu⟩
              have HB := Lib.hid hbu
              have J2 := Lib.hid (I2.out.below hbu I2.out.lt)
              have J3 := Lib.hid (I3.out.below hbu I3.out.lt)
              have J4 := Lib.hid (I4.out.below hbu I4.out.lt)
              have J5 := Lib.hid (I5.out.below hbu I5.out.lt)
              have J7 := Lib.hid (I7.out.below hbu I7.out.lt)
              have J8 := Lib.hid (I8.out.below hbu I8.out.lt)
              have JB := Lib.hid (IB.out.trans (HB.out.mono IB.out.size))
              have HKF := Lib.hid (keepsFrom_of_all (B := VW.heap.size) HB.out)
              clear hbu c2 c21 c22 g0 g1 g2 g3 CC
              have c3 := J3.out.cell 0
              have c4 := J4.out.cell 0
              have f4 := J4.out.frozen 0
              by_cases hneg : f x < 0
              · have hd : decide (f x < 0) = true := by simp [hneg]
                gi_wp2
                exact ⟨HKF.out.trans ((KeepsOthers.setCell _ _ _).from _), rfl, V.more_out (by omega), Lib.hid (J4.out.set_ 0 (.int .i64 6)), Lib.hid (JB.out.setCell (p := ⟨w.heap.size + 1 + 1, 0, none⟩) (by simp; omega) _)⟩
              · by_cases hge : n ≤ f x
                · have hd : decide (f x < 0) = false := by simp; omega
                  have hd2 : decide (n ≤ f x) = true := by simp [hge]
                  gi_wp2
                  exact ⟨HKF.out.trans ((KeepsOthers.setCell _ _ _).from _), rfl, V.more_out (by omega), Lib.hid (J4.out.set_ 0 (.int .i64 6)), Lib.hid (JB.out.setCell (p := ⟨w.heap.size + 1 + 1, 0, none⟩) (by simp; omega) _)⟩
                · obtain ⟨y, hxf⟩ : ∃ y : Nat, f x = (y : Int) := ⟨(f x).toNat, by omega⟩
                  have hyl : y < fs.length := by omega
                  have HSE2 := Lib.hid (V.more_seen HSE.out hxf hyl)
                  have HDE := Lib.hid (V.more_dup HSE.out hxf)
                  have HIN2 := Lib.hid (V.more_in HIN.out (n := x) (by omega))
                  have hfy := (J5.out.cell y).trans (flags_get fs hyl)
                  have hfr := J5.out.frozen y
                  have c7 := J7.out.cell 0
                  have hy0 : (0 : Int) ≤ (y : Int) := by omega
                  have hyn : (y : Int) < n := by omega
                  have hyn' : y < n := by omega
                  have hd : decide ((y : Int) < 0) = false := by simp
                  have hd2 : decide ((n : Int) ≤ (y : Int)) = false := by simp; omega
                  have hsl : (fs.set y true).length = n := by rw [List.length_set]; exact hfl
                  rw [hxf]
                  clear hneg hge hxf hyl hfl HSE
                  generalize fs.getD y false = b0 at *
                  have K8 := J8.out
                  have hde := HDE.out
                  clear HDE J8 I8
                  cases hb : V.dupB (V.through f pre) pre.length
                  all_goals
                    rw [hb] at K8 hde
                    have HDE := Lib.hid hde
                    have J8 := Lib.hid K8
                    have c8 := K8.cell 0
                    have f8 := K8.frozen 0
                    clear hde K8 hb
                    gi_wp2
                    refine ⟨HKF.out.trans (((KeepsOthers.setCell _ _ _).trans (KeepsOthers.setCell _ _ _)).from _), ?_, ?_⟩
                    · exact Keep.trans (keep_of_all HB.out IB.out.size) (Keep.trans (Keep.of_grown (by simp; omega) (by simp) (by simp; omega) _) (Keep.of_grown (by simp; omega) (by simp; omega) (by simp; omega) _))
                    · refine ⟨Lib.hid ((J2.out.far (show w.heap.size ≠ s1 + 1 + 1 by omega) _).far (show w.heap.size ≠ s1 by omega) _), Lib.hid ((J3.out.far (show w.heap.size + 1 ≠ s1 + 1 + 1 by omega) _).far (show w.heap.size + 1 ≠ s1 by omega) _), Lib.hid ((J4.out.far (show w.heap.size + 1 + 1 ≠ s1 + 1 + 1 by omega) _).far (show w.heap.size + 1 + 1 ≠ s1 by omega) _),
                        Lib.hid ((J7.out.far (show s1 + 1 ≠ s1 + 1 + 1 by omega) _).far (show s1 + 1 ≠ s1 by omega) _), ⟨fs.set y true, hsl, HSE2, Lib.hid ?_⟩, Lib.hid ?_, HIN2, Lib.hid ((JB.out.setCell (p := ⟨s1 + 1 + 1, 0, none⟩) (by simp; omega) _).setCell (p := ⟨s1, y, none⟩) (by simp; omega) _)⟩
                      · have h := fun u => (J5.out.far (p := ⟨s1 + 1 + 1, 0, none⟩) (show s1 ≠ s1 + 1 + 1 by omega) u).set_ y (.bool true)
                        simp only [flags_set] at h
                        exact h _
                      · rw [HDE.out]
                        exact (J8.out.set_ 0 _).far (show s1 + 1 + 1 ≠ s1 by omega) _
            case done =>
              rintro D xs U hD rfl ⟨I2, I3, I4, I7, ⟨fs, hfl, HSE, I5⟩, I8, HIN, IB⟩ hDK
              have hR := HP.out.trans (V.in_range HIN.out)
              have K8 := I8.out
              have c4 := I4.out.cell 0
              have f4 := I4.out.frozen 0
              clear I8
              cases hb : V.dupB (V.through f (List.range (sizeN l))) (List.range (sizeN l)).length with
              | true =>
                rw [hb] at K8 hR
                have HRR := Lib.hid (hR.trans (if_pos rfl)).symm
                have c8 := K8.cell 0
                clear hR K8 hb
                have hDK2 := Lib.hid ((KeepsOthers.setCell U ⟨w.heap.size + 1 + 1, 0, none⟩ (.int .i64 7)).same D _ hDK rfl)
                have HJ4 := Lib.hid ((I4.out.set_ 0 (.int .i64 7)).record (o' := .deferred none) hDK2.out rfl)
                have d4 := HJ4.out.cell 0
                have HBE := Lib.hid ((IB.out.setCell (p := ⟨w.heap.size + 1 + 1, 0, none⟩) (by simp; omega) (.int .i64 7)).trans (below_putObj w.heap.size (U.setCell ⟨w.heap.size + 1 + 1, 0, none⟩ (.int .i64 7)) D (.deferred none) (by omega)))
                clear hDK
                dsimp only
                gi_wp2
                refine ⟨by simp, .inl ⟨_, _, rfl, run_takeDeferred hDK2.out, ?_⟩⟩
                exact ⟨.int .i64 7, by simp [results, Tryz.results75, go_sem, d4], ret_int HRR.out, HBE.out⟩
              | false =>
                rw [hb] at K8 hR
                have HRR := Lib.hid (hR.trans (if_neg (by decide))).symm
                have c8 := K8.cell 0
                clear hR K8 hb
                have hDK2 := Lib.hid ((KeepsOthers.setCell U ⟨w.heap.size + 1 + 1, 0, none⟩ (.int .i64 0)).same D _ hDK rfl)
                have HJ4 := Lib.hid ((I4.out.set_ 0 (.int .i64 0)).record (o' := .deferred none) hDK2.out rfl)
                have d4 := HJ4.out.cell 0
                have HBE := Lib.hid ((IB.out.setCell (p := ⟨w.heap.size + 1 + 1, 0, none⟩) (by simp; omega) (.int .i64 0)).trans (below_putObj w.heap.size (U.setCell ⟨w.heap.size + 1 + 1, 0, none⟩ (.int .i64 0)) D (.deferred none) (by omega)))
                clear hDK
                dsimp only
                gi_wp2
                refine ⟨by simp, .inl ⟨_, _, rfl, run_takeDeferred hDK2.out, ?_⟩⟩
                exact ⟨.int .i64 0, by simp [results, Tryz.results75, go_sem, d4], ret_int HRR.out, HBE.out⟩
            case stop =>
              rintro D c pre U hD ⟨m, h1, h2, rfl⟩ ⟨rfl, hout, I4, IB⟩ hDK
              have HRR := Lib.hid (HP.out.trans (V.out_range h2 hout)).symm
              have hDK2 := Lib.hid hDK
              have HJ4 := Lib.hid (I4.out.record (o' := .deferred none) hDK rfl)
              have d4 := HJ4.out.cell 0
              have HBE := Lib.hid (IB.out.trans (below_putObj w.heap.size U D (.deferred none) (by omega)))
              clear hout hDK
              dsimp only
              gi_wp2
              refine ⟨by simp, .inl ⟨_, _, rfl, run_takeDeferred hDK2.out, ?_⟩⟩
              exact ⟨.int .i64 6, by simp [results, Tryz.results75, go_sem, d4], ret_int HRR.out, HBE.out⟩
          · rw [V.nearB_false hnear] at CN
            have HRR := Lib.hid (HFAR.out hok HL.out (by omega) (by omega) hnear).symm
            have HNM := Lib.hid hok
            clear HP hok hnear hN HFAR
            gi_wp2
            refine ⟨trivial, ?_⟩
            refine (callsIn_wide.2 CS.out).mono ?_
            rintro e w' ⟨rfl, rfl⟩
            gi_wp2
            refine ⟨trivial, ?_⟩
            refine (callsIn_wide.2 CN.out).mono ?_
            rintro e w1 ⟨rfl, hb1⟩
            have HK4 := Lib.hid (HZ4.out.below hb1 HZ4.out.lt)
            have HB1 := Lib.hid (below_then HZB.out HZB.out.size hb1)
            clear hb1
            have c4 := HK4.out.cell 0
            have f4 := HK4.out.frozen 0
            have d4 := (HK4.out.set_ 0 (.int .i64 6)).cell 0
            have HBE := Lib.hid (HB1.out.setCell (p := ⟨w.heap.size + 1 + 1, 0, none⟩) (by simp; omega) (.int .i64 6))
            gi_wp2
            exact ⟨.int .i64 6, by simp [results, Tryz.results75, go_sem, d4], ret_int HRR.out, HBE.out⟩
        · clear HFAR
          rcases S.size_cases l with ho | ⟨_, he⟩ | ⟨_, he⟩
          · exact absurd ho hok
          · rw [he] at HC2 CS
            have HRR := Lib.hid (HC2.out.trans (if_pos (by simp))).symm
            clear HC2 he
            have HBE := Lib.hid (HBV.out (.int .i64 1))
            gi_wp2
            refine ⟨trivial, ?_⟩
            refine (callsIn_wide.2 CS.out).mono ?_
            rintro e w' ⟨rfl, rfl⟩
            gi_wp2
            exact ⟨.int .i64 1, by simp [results, Tryz.results75, go_sem], ret_int HRR.out, HBE.out⟩
          · rw [he] at HC2 CS
            have HRR := Lib.hid (HC2.out.trans (if_pos (by simp))).symm
            clear HC2 he
            have HBE := Lib.hid (HBV.out (.int .i64 5))
            gi_wp2
            refine ⟨trivial, ?_⟩
            refine (callsIn_wide.2 CS.out).mono ?_
            rintro e w' ⟨rfl, rfl⟩
            gi_wp2
            exact ⟨.int .i64 5, by simp [results, Tryz.results75, go_sem], ret_int HRR.out, HBE.out⟩
  · have hb : ((l.length : Int) != (s.length : Int)) = true := by simp; omega
    have hb2 : ((l.length : Int) == (s.length : Int)) = false := by simp; omega
    have HRR := Lib.hid (HC.out.trans (if_pos (.inl h1))).symm
    clear HC h1 HFAR
    have HBE := Lib.hid (HBV.out (.int .i64 1))
    gi_wp2
    exact ⟨.int .i64 1, by simp [results, Tryz.results75, go_sem], ret_int HRR.out, HBE.out⟩
end Go.Proofs.YtpkpadepccneeaaGreatDoor.W

/- The walk of chapter 8's Cells, the reference's; what a view that can be is. No condition. -/
namespace Go.Proofs.YtpkpadepccneeaaGreatDoor.W
set_option maxRecDepth 100000
set_option linter.unusedVariables false
set_option linter.unusedSimpArgs false
open Go.RowKit
namespace V
open Classical
theorem chk_zero {f : Nat → Int} {N : Nat} {c : Int} (h : chk f N c = 0) : (∀ n, n < N → 0 ≤ f n ∧ f n < c) ∧ dupB f N = false := by
  unfold chk at h
  split at h
  · omega
  · rename_i hno
    refine ⟨fun n hn => Classical.byContradiction fun hx => hno ⟨n, hn, hx⟩, ?_⟩
    split at h
    · omega
    · rename_i hd; simpa using hd
theorem check_zero {o : Int} {l s : List Int} {c : Int} (h : check o l s c = 0) : l.length = s.length ∧ S.Ok l ∧ 0 ≤ c ∧ c ≤ 4096 ∧ (∀ n, n < sizeN l → 0 ≤ cellOf o l s n ∧ cellOf o l s n < c) ∧ dupB (cellOf o l s) (sizeN l) = false ∧ near o l s c := by
  have h' := h
  unfold check at h
  split at h
  · omega
  · rename_i h1
    split at h
    · omega
    · rename_i h2
      have hok : S.Ok l := by
        rcases S.size_cases l with ho | ⟨_, he⟩ | ⟨_, he⟩
        · exact ho
        all_goals rw [he] at h2; simp at h2
      have hz := chk_zero h
      have hb : l.length = s.length ∧ 0 ≤ c ∧ c ≤ 4096 := by omega
      refine ⟨hb.1, hok, hb.2.1, hb.2.2, hz.1, hz.2, Classical.byContradiction fun hn => ?_⟩
      rw [check_far o l s c hok hb.1 hb.2.1 hb.2.2 hn] at h'
      omega
noncomputable def cells (o : Int) (l s : List Int) : List Int := if check o l s 4096 = 0 then (List.range (sizeN l)).map (cellOf o l s) else []
end V
theorem under22 : Tryz.prog.underlying 27 = some (.slice 3) := by kernel_rfl
theorem info3 : (Tryz.prog.info? 3).map (fun i => (i.zero, i.size, i.bytes)) = some (some (.int .i64 0), 1, 8) := by kernel_rfl
/-- 'append(out, x)' as a run: out a row of the call's own, or none. -/
theorem append_run (W : World) (B : Nat) (v : Value) (l : List Int) (y : Int) (hown : OI .i64 3 W B v l) (hlen : l.length + 1 ≤ 8192) (hB : B ≤ W.heap.size) :
    ∃ v' W', (Builtin.append_ #[27, 27] 27 #[v, .slice (some ⟨W.heap.size, 0, none⟩) 1 1]).run Tryz.prog (W.alloc (.cells #[.int .i64 y] 3)) = .ok v' W' ∧ OI .i64 3 W' B v' (l ++ [y]) ∧ Below B W W' := by
  obtain ⟨i0, h1, h2, h3, h4⟩ := info_parts info3
  obtain ⟨g, cap, W', hr, ho, hg, _, _⟩ := run_append_lies (P := Tryz.prog) (W.alloc (.cells #[.int .i64 y] 3)) 27 27 B 3 i0 (.int .i64 0) 1 8 under22 h1 h2 h3 h4 rfl (by decide) v l.length (ints .i64 l) (OI.alloc hown _)
    ⟨W.heap.size, 0, none⟩ 1 1 [.int .i64 y] rfl (cell_one_new _ _ _) (by intro u hu; simp at hu; subst hu; rfl) (by decide) (by unfold maxLen; omega) (by omega) (by simp; omega) _ rfl
  refine ⟨_, W', hr, ?_, ?_⟩
  · unfold OI; simpa [ints] using ho
  · exact ((Below.refl _ _).alloc hB _).grown hg (by simp; omega) (fun g hg' => (hown.lt g hg').1)
end Go.Proofs.YtpkpadepccneeaaGreatDoor.W

/- The walk of chapter 8's Cells, the reference's. No condition. -/
namespace Go.Proofs.YtpkpadepccneeaaGreatDoor.W
set_option maxRecDepth 100000
set_option linter.unusedVariables false
set_option linter.unusedSimpArgs false
open Go.RowKit
/-- 'append(out, x)' of one number as a step of a region that draws. -/
theorem step_append1 {P : Program} {W : World} {ops : Array Oper} {o : Oper} {a : Act} {K : Act → World → Prop} {Q : Exit → Act → World → Prop} {E : Prop} (hgd : o.guard = none) (s x : Operand) (t : TypeId)
    (ho : o.op = .call { callee := .builtin .append, args := #[s, x], argTypes := #[t, t] }) (B : Nat) (e : TypeId) (k : IntKind) (bytes : Nat) (ht : P.underlying t = some (.slice e))
    (hi : (P.info? e).map (fun i => (i.zero, i.size, i.bytes)) = some (some (.int k 0), 1, bytes)) (hby : bytes ≤ 8)
    (v : Value) (l : List Int) (y : Int) (hs : a.eval s = v) (hx : a.eval x = .slice (some ⟨W.heap.size, 0, none⟩) 1 1) (hown : OI k e W B v l) (hlen : l.length + 1 ≤ 8192) (hB : B ≤ W.heap.size)
    (h : ∀ v' w', OI k e w' B v' (l ++ [y]) → Below B W w' → K (a.put o.dst v') w') :
    if Region.wanted o (yielded ops a.tmps) = true then Oper.wp P o a (W.alloc (.cells #[.int k y] e)) K Q else E := by
  obtain ⟨i0, h1, h2, h3, h4⟩ := info_parts hi
  refine step_append_lies _ hgd s x t ho B e i0 (.int k 0) 1 bytes ht h1 h2 h3 h4 rfl (by decide) v l.length (ints k l) hs (OI.alloc hown _) ⟨W.heap.size, 0, none⟩ 1 1 [.int k y] hx rfl (cell_one_new _ _ _)
    (by intro u hu; simp at hu; subst hu; rfl) (by decide) (by unfold maxLen; omega) ?_ (by simp; omega) _ rfl ?_
  · calc (l.length + 1) * bytes ≤ (l.length + 1) * 8 := Nat.mul_le_mul_left _ hby
      _ ≤ 140737488355328 := by omega
  · intro g cap w' ho hg _ _
    refine h _ w' ?_ ?_
    · unfold OI; simpa [ints] using ho
    · exact ((Below.refl _ _).alloc hB _).grown hg (by simp; omega) (fun g hg' => (hown.lt g hg').1)
set_option maxHeartbeats 2000000 in
theorem refCells_any (o : Int) (A B : Option Addr) (cp cq : Nat) (l s : List Int) (w : World) (hr : RI .i64 w A l) (hs : RI .i64 w B s) (hcap : l.length ≤ cp) (hm : l.length ≤ 9223372036854775807) (hms : s.length ≤ 9223372036854775807) :
    Calls Tryz.prog 16 #[.agg (view o A l.length cp B s.length cq)] w fun e w' => ∃ v, e = .returned v ∧ OI .i64 3 w' w.heap.size v (V.cells o l s) ∧ Below w.heap.size w w' := by
  have HB0 := Lib.hid ((Below.refl w.heap.size w).alloc (Nat.le_refl _) (.cells (view o A l.length cp B s.length cq) 29))
  have HK0 := Lib.hid (Blk.new w 29 (view o A l.length cp B s.length cq))
  have HR0 := Lib.hid hr
  have HS0 := Lib.hid hs
  have CH := Lib.hid (refCheck_any o A B cp cq l s 4096 _ (hr.below HB0.out) (hs.below HB0.out) hcap hm hms)
  have HC := Lib.hid (show V.cells o l s = if V.check o l s 4096 = 0 then (List.range (sizeN l)).map (V.cellOf o l s) else [] from rfl)
  have HZ := Lib.hid (V.check_zero (o := o) (l := l) (s := s) (c := 4096))
  generalize V.cells o l s = R at *
  generalize V.check o l s 4096 = q at *
  clear hr hs
  go_enter Tryz.func16, Tryz.ntmps16
  by_cases hq : q = 0
  · have HRL := Lib.hid (HC.out.trans (if_pos hq))
    obtain ⟨h1, hok, _, _, hin, _, _⟩ := HZ.out hq
    subst hq
    have HL := Lib.hid h1
    have HIN := Lib.hid hin
    have hN := sizeN_ok hok
    have h4 := hok.1
    have h4s : s.length ≤ 4 := by omega
    have hp := hok.2.2
    rw [← hN] at hp
    have CS := Lib.hid fun (W : World) (h : RI .i64 W A l) => refSize_any A cp l W h hm
    rw [hok.size, ← hN] at CS
    have HX := Lib.hid fun (k : Nat) => V.pad_small_any hok k
    have HDEF := Lib.hid (show ∀ k, V.cellOf o l s k = V.cellR o s (S.pad (S.atL l k)) s.length from fun k => rfl)
    have CA := Lib.hid fun (k : Nat) (a b c d : Int) (hk : k < sizeN l) (hx : S.pad (S.atL l k) = [a, b, c, d]) (W : World) (h : RI .i64 W A l) => refAt_any A cp l k a b c d W h hcap hok (by omega) (by omega) hx
    have CC := Lib.hid fun (a b c d : Int) (hi : ∀ k, 0 ≤ [a, b, c, d].getD k 0 ∧ [a, b, c, d].getD k 0 ≤ 4096) (W : World) (h : RI .i64 W B s) => Cell_any o A B cp cq l s a b c d W h HL.out.symm hok.1 hi
    clear HC HZ h1 hin hN hok
    generalize V.cellOf o l s = f at *
    generalize sizeN l = N at *
    go_wp2_with fail
    with_reducible refine CH.out.mono ?_
    rintro e w1 ⟨rfl, hb1⟩
    have HB1 := Lib.hid (below_then HB0.out HB0.out.size hb1)
    have HK1 := Lib.hid (HK0.out.below hb1 HK0.out.lt)
    have CS1 := Lib.hid (CS.out w1 (HR0.out.below HB1.out))
    clear hb1 CS CH
    have c1 := HK1.out.cell 1
    go_wp2_with fail
    with_reducible refine CS1.out.mono ?_
    rintro e w' ⟨rfl, rfl⟩
    go_wp2_with fail
    clear c1
    go_loopw [3, 6] (fun v n wr => ∃ k : Nat, k ≤ N ∧ n = .int .i64 k ∧ Hid (OI .i64 3 wr (w.heap.size + 1) v ((List.range k).map f)) ∧ Hid (Blk wr w.heap.size 29 (view o A l.length cp B s.length cq)) ∧ Hid (Below w.heap.size w wr)) (fun _ n _ => N - (intOf n).toNat)
    case atStart => exact ⟨0, by omega, rfl, Lib.hid (OI.nil _ _ _ _), HK1, HB1⟩
    case round =>
      obtain ⟨k, hk, rfl, HO, HKr, HBr⟩ := hrel
      by_cases hlt : k < N
      · obtain ⟨a, b, c', d, hx⟩ := list_four (S.pad_length (x := S.atL l k) (by rw [S.atL_length]; exact h4))
        have CA2 := Lib.hid (CA.out k a b c' d hlt hx wr.drew ((HR0.out.below HBr.out).drewN 1))
        have hsm := HX.out k
        rw [hx] at hsm
        have CC1 := Lib.hid fun (W : World) (h : RI .i64 W B s) => CC.out a b c' d (fun j => ⟨(hsm j).1, (hsm j).2.1⟩) W h
        have hfk := HDEF.out k
        rw [hx] at hfk
        rw [← hfk] at CC1
        clear hsm hx hfk CA CC HX HDEF
        have w0 := HKr.out.cell 0
        have w1 := HKr.out.cell 1
        have w2 := HKr.out.cell 2
        have HNX := Lib.hid (show (List.range k).map f ++ [f k] = (List.range (k + 1)).map f by rw [List.range_succ, List.map_append]; rfl)
        have hln : ((List.range k).map f).length = k := by simp
        generalize (List.range k).map f = pre at *
        generalize f k = y at *
        go_wp2_with fail
        go_region_law (first
          | (refine step_append1 rfl (.tmp 22) (.tmp 29) 27 rfl (w.heap.size + 1) 3 .i64 8 under22 info3 (by decide) u3 pre y (by simp [Act.eval, Act.put]) (by simp [Act.eval, Act.put]) (HO.out.below HBU2.out) (by omega) (Nat.le_trans HKr.out.lt HBU2.out.size) ?_; intro v' W' ho' hb'; have HO' := Lib.hid ho'; have HB' := Lib.hid hb'; clear ho' hb')
          | (go_simp; go_at_call 44; refine CA2.out.mono ?_; rintro e U ⟨rfl, hbu⟩; (have HKU := (HKr.out.drewN 1).below hbu HKr.out.lt); have v0 := HKU.cell 0; have v1 := HKU.cell 1; have v2 := HKU.cell 2; (have HBU := Lib.hid (show Below wr.heap.size wr U from ⟨hbu.os, hbu.tape, hbu.output, hbu.size, hbu.block⟩)); have HSU := Lib.hid (((HS0.out.below HBr.out)).below HBU.out); clear HKU hbu; dsimp only)
          | (go_simp; go_at_call 43; refine (CC1.out _ HSU.out).mono ?_; rintro e U2 ⟨rfl, hbu2⟩; have HBU2 := Lib.hid (below_then HBU.out HBU.out.size hbu2); clear hbu2; dsimp only))
        all_goals
          go_wp2_with fail
          go_roundw
          case rel => exact ⟨k + 1, by omega, by go_num, Lib.hid (by rw [← HNX.out]; exact HO'.out), Lib.hid ((HKr.out.below HBU2.out HKr.out.lt).below HB'.out (by omega)), Lib.hid (below_then HBr.out HBr.out.size HBU2.out |>.trans (HB'.out.mono (by omega)))⟩
          case measure => simp [intOf]; omega
      · obtain rfl : k = N := by omega
        go_wp2_with fail
        go_ret
        exact ⟨_, rfl, by rw [HRL.out]; exact HO.out.mono (by omega), HBr.out⟩
  · have HRL := Lib.hid (HC.out.trans (if_neg hq))
    have hq1 : (q != 0) = true := by simp [hq]
    have hq2 : (q == 0) = false := by simp [hq]
    clear HC HZ hq
    go_wp2_with fail
    with_reducible refine CH.out.mono ?_
    rintro e w1 ⟨rfl, hb1⟩
    have HB1 := Lib.hid (below_then HB0.out HB0.out.size hb1)
    clear hb1
    go_wp2_with fail
    go_ret
    exact ⟨_, rfl, by rw [HRL.out]; exact OI.nil _ _ _ _, HB1.out⟩
end Go.Proofs.YtpkpadepccneeaaGreatDoor.W

/- The walk of chapter 8's Cells, the program's. No condition. -/
namespace Go.Proofs.YtpkpadepccneeaaGreatDoor.W
set_option maxRecDepth 100000
set_option linter.unusedVariables false
set_option linter.unusedSimpArgs false
open Go Go.RowKit Go.Shelf
attribute [local go_sem] Oper.semAt_some
theorem OI.keptW {k : IntKind} {e : TypeId} {w w1 : World} {B : Nat} {v : Value} {l : List Int} {row : Option Nat} (h : OI k e w B v l) (hg : w.grownBy w1 row) (hne : ∀ g, v.ownBlock = some g → row ≠ some g) : OI k e w1 B v l :=
  World.ownsRow.kept h hg (by
    cases hv : v.ownBlock with
    | none => exact .inl rfl
    | some g => exact .inr (fun e => hne g hv e.symm))
/-- An own row's block is cells. -/
theorem OI.cells {k : IntKind} {e : TypeId} {w : World} {B : Nat} {v : Value} {l : List Int} (h : OI k e w B v l) (g : Nat) (o : Obj) (hv : v.ownBlock = some g) (ho : w.heap[g]? = some o) : o.isCells = true := by
  rcases h.2 with ⟨rfl, _⟩ | ⟨g', cap, cur, rfl, _, hgg, _⟩
  · simp [Value.ownBlock] at hv
  · have : g' = g := by simpa [Value.ownBlock] using hv
    subst this
    rw [hgg] at ho
    cases ho
    rfl
theorem OI.turned {k : IntKind} {e : TypeId} {w w1 : World} {B B0 G : Nat} {v : Value} {l : List Int} {row : Option Nat} (h : OI k e w B v l) (hg : w.grownBy w1 row) (hr : Turns B0 G w row) (hG : G < B) : OI k e w1 B v l :=
  h.kept hg fun g hv e => by
    have hb := h.lt g hv
    rcases hr g e with h' | ⟨_, o, ho, hc⟩
    · omega
    · rw [h.cells g o hv ho] at hc; cases hc
/-- 'append(out, x)' as a run, its value written out. -/
theorem append_run2 (W : World) (B : Nat) (v : Value) (l : List Int) (y : Int) (hown : OI .i64 3 W B v l) (hlen : l.length + 1 ≤ 8192) (hB : B ≤ W.heap.size) :
    ∃ g cap W', (Builtin.append_ #[27, 27] 27 #[v, .slice (some ⟨W.heap.size, 0, none⟩) 1 1]).run Tryz.prog (W.alloc (.cells #[.int .i64 y] 3)) = .ok (.slice (some ⟨g, 0, none⟩) (l.length + 1) cap) W' ∧
      OI .i64 3 W' B (.slice (some ⟨g, 0, none⟩) (l.length + 1) cap) (l ++ [y]) ∧ Below B W W' ∧ KeepsOthers W W' := by
  obtain ⟨i0, h1, h2, h3, h4⟩ := info_parts info3
  obtain ⟨g, cap, W', hr, ho, hg, _, _⟩ := run_append_lies (P := Tryz.prog) (W.alloc (.cells #[.int .i64 y] 3)) 27 27 B 3 i0 (.int .i64 0) 1 8 under22 h1 h2 h3 h4 rfl (by decide) v l.length (ints .i64 l) (OI.alloc hown _)
    ⟨W.heap.size, 0, none⟩ 1 1 [.int .i64 y] rfl (cell_one_new _ _ _) (by intro u hu; simp at hu; subst hu; rfl) (by decide) (by unfold maxLen; omega) (by omega) (by simp; omega) _ rfl
  refine ⟨_, _, W', hr, ?_, ?_, ?_⟩
  · unfold OI; simpa [ints] using ho
  · exact ((Below.refl _ _).alloc hB _).grown hg (by simp; omega) (fun g hg' => (hown.lt g hg').1)
  · exact (KeepsOthers.alloc _ _).trans (KeepsOthers.of_grownBy hg fun j o hj ho => (OI.alloc hown _).cells j o hj ho)
attribute [-go_sem] Go.Builtin.append_
set_option maxHeartbeats 4000000 in
theorem Cells_any (o : Int) (A B : Option Addr) (cp cq : Nat) (l s : List Int) (w : World) (hr : RI .i64 w A l) (hs : RI .i64 w B s) (hm : l.length ≤ 9223372036854775807) (hms : s.length ≤ 9223372036854775807) :
    Calls Tryz.prog 38 #[.agg (view o A l.length cp B s.length cq)] w fun e w' => ∃ v, e = .returned v ∧ OI .i64 3 w' w.heap.size v (V.cells o l s) ∧ Below w.heap.size w w' := by
  have HB0 := Lib.hid ((Below.refl w.heap.size w).alloc (Nat.le_refl _) (.cells (view o A l.length cp B s.length cq) 41))
  have HK0 := Lib.hid (Blk.new w 41 (view o A l.length cp B s.length cq))
  have hr' := Lib.hid hr
  have hs' := Lib.hid hs
  have CH := Lib.hid (Check_any o A B cp cq l s 4096 _ (hr.below HB0.out) (hs.below HB0.out) hm hms)
  have HC := Lib.hid (show V.cells o l s = if V.check o l s 4096 = 0 then (List.range (sizeN l)).map (V.cellOf o l s) else [] from rfl)
  have HZ := Lib.hid (V.check_zero (o := o) (l := l) (s := s) (c := 4096))
  generalize V.cells o l s = R at *
  generalize V.check o l s 4096 = q at *
  clear hr hs
  refine (callsIn_wide (n := 9)).1 ?_
  refine callsIn_of_wp_marks Tryz.func38 rfl trivial ?_ rfl
  simp only [Tryz.ntmps38, List.size_toArray, List.length_cons, List.length_nil, Nat.reduceAdd, Nat.reduceSub, Array.replicate_succ, Array.replicate_zero, List.push_toArray, List.append_toArray, List.nil_append, List.cons_append]
  by_cases hq : q = 0
  · have HRL := Lib.hid (HC.out.trans (if_pos hq))
    obtain ⟨h1, hok, _, _, hin, _, hnear⟩ := HZ.out hq
    subst hq
    have HL := Lib.hid h1
    have HNR := Lib.hid hnear
    have hN := sizeN_ok hok
    have h4 := hok.1
    have h4s : s.length ≤ 4 := by omega
    have hp := hok.2.2
    rw [← hN] at hp
    have HCF := Lib.hid (show ∀ x, V.cellOf o l s x = V.cellR o s (S.pad (S.atL l x)) s.length from fun x => rfl)
    have HCS := Lib.hid fun (x : Nat) => V.cell_same o l s (S.pad (S.atL l x)) 4096 (by omega) hnear (fun k => (V.pad_small_any hok x k).1) (fun k _ h => (V.pad_small_any hok x k).2.2 h) s.length (Nat.le_refl _)
    have HSM := Lib.hid fun (x : Nat) => V.pad_small_any hok x
    clear HC HZ h1 hin hN hok hnear
    gi_wp2
    refine ⟨trivial, ?_⟩
    refine (callsIn_wide.2 CH.out).mono ?_
    rintro e w1 ⟨rfl, hb1⟩
    have HB1 := Lib.hid (below_then HB0.out HB0.out.size hb1)
    have HK1 := Lib.hid (HK0.out.below hb1 HK0.out.lt)
    clear hb1 CH
    have Z3 := Blk.new w1 27 #[.slice none 0 0]
    have ZX := Blk.new (w1.alloc (.cells #[.slice none 0 0] 27)) 27 #[.slice A l.length cp]
    rw [World.size_alloc] at ZX
    have HS2 := Lib.hid HK1.out.lt
    have V1 := Lib.hid ((HK1.out.alloc (.cells #[.slice none 0 0] 27)).alloc (.cells #[.slice A l.length cp] 27))
    have V3 := Lib.hid (Z3.alloc (.cells #[.slice A l.length cp] 27))
    have VX := Lib.hid ZX
    have VB := Lib.hid (show Below w.heap.size w ((w1.alloc (.cells #[.slice none 0 0] 27)).alloc (.cells #[.slice A l.length cp] 27)) from by
      have hsz := HB1.out.size
      exact (((HB1.out).alloc hsz _).alloc (by simp; omega) _))
    have VS := Lib.hid (show ((w1.alloc (.cells #[.slice none 0 0] 27)).alloc (.cells #[.slice A l.length cp] 27)).heap.size = w1.heap.size + 2 by simp)
    clear Z3 ZX
    have e11 := (HK1.out.alloc (.cells #[.slice none 0 0] 27)).cell 1
    gi_wp2
    refine ⟨trivial, ?_⟩
    refine (callsIn_wide.2 (All_any _ _ _ _)).mono ?_
    rintro e w' ⟨rfl, rfl⟩
    gi_wp2
    have HS1 := Lib.hid HB1.out.size
    clear e11 HB1 HK1 HB0 HK0
    generalize ((w1.alloc (.cells #[.slice none 0 0] 27)).alloc (.cells #[.slice A l.length cp] 27)) = VW at *
    have hVS := VS.out
    have hS2 := HS2.out
    generalize w1.heap.size = s1 at *
    generalize V.cellOf o l s = f at *
    refine RangeC.range_law (n := 9) (gf := 134) (lb := #[.pointer (some ⟨s1 + 1, 0, none⟩)]) rfl (by omega) rfl trivial (enters_of Tryz.func134 (by kernel_rfl) rfl)
      (All1_stops 8 (by omega) (s1 + 1) A cp l w VW hr'.out hm VB.out VX.out) Keep.trans
      (fun W o o' h => keep_putObj _ _ _ _ _ _ (by omega) (by omega) (by omega)) (Below.refl _ _) (fun _ => rfl)
      (fun pre W => Hid (Blk W w.heap.size 41 (view o A l.length cp B s.length cq)) ∧ (∃ A' c', Hid (Blk W s1 27 #[.slice A' pre.length c']) ∧ Hid (OI .i64 3 W (s1 + 5) (.slice A' pre.length c') (pre.map f))) ∧ Hid (Below w.heap.size w W))
      (fun c pre W => False)
      (fun pre X Y row hs hg hr => ⟨Lib.hid (hs.1.out.kept hg hr (by omega) (by omega)), (by
        obtain ⟨A', c', h1, h2⟩ := hs.2.1
        exact ⟨A', c', Lib.hid (h1.out.kept hg hr (by omega) (by omega)), Lib.hid (h2.out.turned hg hr (by omega))⟩), Lib.hid (below_kept hs.2.2.out (Nat.le_refl _) hg hr (by omega) (by omega))⟩)
      (fun c pre X Y row hs hg hr => hs)
      ⟨V1, ⟨none, 0, V3, Lib.hid (OI.nil _ _ _ _)⟩, VB⟩
      (fun x a' W => ∃ g, s1 + 2 ≤ g ∧ Blk W g 170 (idx l x) ∧ a' = { tmps := #[.agg (view o A l.length cp B s.length cq), .pointer (some ⟨w.heap.size, 0, none⟩), .slice none 0 0, .pointer (some ⟨s1, 0, none⟩), undef, .pointer (some ⟨g, 0, none⟩), .agg (view o A l.length cp B s.length cq), .int .i64 0, .bool false, .pointer (some ⟨w.heap.size, 1, none⟩), .slice A l.length cp, .func (.func 134) #[] #[.pointer (some ⟨s1 + 1, 0, none⟩)], .int .i64 x, .agg (idx l x), undef, undef, undef, undef, undef, undef, undef], defers := [] })
      (fun x a' W o o' h ho ⟨g, h1, h2, h3⟩ => ⟨g, h1, h2.record h ho, h3⟩)
      ?assign ?body ?done ?stop
    case assign =>
      intro L pre x W K hi ho hK
      obtain ⟨a, b, c, d, hx⟩ : ∃ a b c d, idx l x = four a b c d := ⟨_, _, _, _, rfl⟩
      rw [hx] at hK ⊢
      have hW : s1 + 2 + 1 < W.heap.size := by
        obtain ⟨o, ho⟩ := ho
        have := (Array.getElem?_eq_some_iff.1 ho).1
        omega
      have HK := Lib.hid hK
      have HI := Lib.hid hi
      clear hK hi ho
      gi_wp2
      obtain ⟨I1, ⟨A', c', I3, IO⟩, IB⟩ := HI.out
      exact HK.out _ _ ((KeepsOthers.alloc _ _).from _) (Keep.alloc _ _ _ _ (by omega) _)
        ⟨Lib.hid (I1.out.alloc _), ⟨A', c', Lib.hid (I3.out.alloc _), Lib.hid (IO.out.alloc _)⟩, Lib.hid (IB.out.alloc IB.out.size _)⟩
        ⟨W.heap.size, by omega, Blk.new _ _ _, rfl⟩
    case body =>
      rintro L pre x a' W ⟨o', ho⟩ ⟨I1, ⟨A', c0, I3, IO⟩, IB⟩ ⟨g, hg, hGB, rfl⟩ hlen hGW
      obtain ⟨a, b, c', d, hx⟩ := list_four (S.pad_length (x := S.atL l x) (by rw [S.atL_length]; exact h4))
      have hi : idx l x = four a b c' d := by unfold idx; rw [hx]; rfl
      rw [hi] at hGB ⊢
      have hsm := HSM.out x
      rw [hx] at hsm
      have CC := cell_any o A B cp cq l s 4096 a b c' d W.drew ((hs'.out.below IB.out).drewN 1) h4s (by omega) (by omega) HNR.out (fun k => ⟨(hsm k).1, (hsm k).2.1⟩) (fun k _ h => (hsm k).2.2 h)
      have hcs := HCS.out x
      rw [hx] at hcs
      have hcf := HCF.out x
      rw [hx] at hcf
      rw [hcs, ← hcf] at CC
      have CC := Lib.hid CC
      clear hcs hcf hsm hx
      have c10 := I1.out.cell 0
      have c11 := I1.out.cell 1
      have c12 := I1.out.cell 2
      have c3 := I3.out.cell 0
      have f3 := I3.out.frozen 0
      have g0 := hGB.cell 0
      have g1 := hGB.cell 1
      have g2 := hGB.cell 2
      have g3 := hGB.cell 3
      have HGB := Lib.hid hGB
      have hpl : (pre.map f).length = pre.length := by simp
      clear hi hGB ho
      generalize hpf : pre.map f = ys at *
      have HPF := Lib.hid hpf
      have HPL := Lib.hid hpl
      clear hpf hpl
      generalize hfx : f x = y at *
      have HFX := Lib.hid hfx
      clear hfx
      gi_wp2
      gi_region_with (refine ⟨trivial, ?_⟩; gi_at_call 79; refine (CallsIn.inRound L (callsIn_wide.2 CC.out)).mono ?_; rintro e U2 ⟨rfl, hbu⟩; (have HBU := Lib.hid (show Below W.heap.size W U2 from ⟨hbu.os, hbu.tape, hbu.output, hbu.size, hbu.block⟩)); (have J3 := Lib.hid (I3.out.below HBU.out I3.out.lt)); have q3 := J3.out.cell 0; (have q4 := (J3.out.alloc (.cells #[.int .i64 y] 3)).cell 0); (have hs1U := J3.out.lt); (obtain ⟨ga, cap, W', hrun, hoi, hbe, hko⟩ := append_run2 U2 (s1 + 5) (.slice A' pre.length c0) ys y (IO.out.below HBU.out) (by have := HPL.out; omega) (by have := HBU.out.size; omega)); rw [HPL.out] at hrun hoi; have HOI := Lib.hid hoi; have HBE := Lib.hid hbe; have HKO := Lib.hid hko; (have K3 := Lib.hid (J3.out.below hbe (by omega))); have k3 := K3.out.cell 0; have kf := K3.out.frozen 0; clear hbu hoi hbe hko)
      all_goals gi_wp2
      all_goals
        have hlen2 : (pre ++ [x]).length = pre.length + 1 := by simp
        refine ⟨(keepsFrom_of_all HBU.out).trans ((HKO.out.trans (KeepsOthers.setCell _ _ _)).from _), ?_, ?_, ?_, ?_⟩
        · exact Keep.trans (keep_of_all HBU.out IB.out.size) (Keep.trans (keep_of_below HBE.out (by omega) (by omega) (by omega)) (Keep.of_grown (show w.heap.size ≤ s1 by omega) (show s1 + 1 ≠ s1 by omega) (show VW.heap.size + 2 ≠ s1 by omega) _))
        · exact Lib.hid (((I1.out.below HBU.out I1.out.lt).below HBE.out (by omega)).far (show w.heap.size ≠ s1 by omega) _)
        · refine ⟨some ⟨ga, 0, none⟩, cap, Lib.hid ?_, Lib.hid ?_⟩
          · rw [hlen2]
            exact K3.out.set_ 0 (.slice (some ⟨ga, 0, none⟩) (pre.length + 1) cap)
          · rw [hlen2, List.map_append, HPF.out, show List.map f [x] = [y] from by rw [← HFX.out]; rfl]
            exact HOI.out.kept (row := some s1) ⟨rfl, rfl, rfl, by simp, fun k _ hk => Below.heap_setCell _ _ _ _ (fun e => hk (by rw [e]))⟩ (fun g' hv e => by have := (HOI.out.lt g' hv).1; cases e; omega)
        · exact Lib.hid (((IB.out.trans (HBU.out.mono IB.out.size)).trans (HBE.out.mono (by omega))).setCell (p := ⟨s1, 0, none⟩) (show w.heap.size ≤ s1 by omega) _)
    case done =>
      rintro D xs U hD rfl ⟨I1, ⟨A', c', I3, IO⟩, IB⟩ hDK
      have c3 := I3.out.cell 0
      have hDK2 := Lib.hid hDK
      have HOE := Lib.hid (IO.out.turned (B0 := VW.heap.size) (G := s1 + 4) (grownBy_putObj' U D (.deferred none)) (fun r e => by cases e; exact .inr ⟨hD, _, hDK, rfl⟩) (by omega))
      have HBE := Lib.hid (IB.out.trans (below_putObj w.heap.size U D (.deferred none) (by omega)))
      clear hDK
      dsimp only
      gi_wp2
      refine ⟨by simp, .inl ⟨_, _, rfl, run_takeDeferred hDK2.out, ?_⟩⟩
      refine ⟨.slice A' (List.range (sizeN l)).length c', by simp [results, Tryz.results38, go_sem], _, rfl, ?_, HBE.out⟩
      rw [HRL.out]
      exact HOE.out.mono (by omega)
    case stop =>
      rintro D c pre U hD _ h hDK
      exact h.elim
  · have HRL := Lib.hid (HC.out.trans (if_neg hq))
    have hq1 : (q != 0) = true := by simp [hq]
    have hq2 : (q == 0) = false := by simp [hq]
    clear HC HZ hq
    gi_wp2
    refine ⟨trivial, ?_⟩
    refine (callsIn_wide.2 CH.out).mono ?_
    rintro e w1 ⟨rfl, hb1⟩
    have HB1 := Lib.hid (below_then HB0.out HB0.out.size hb1)
    clear hb1
    gi_wp2
    exact ⟨.slice none 0 0, (by simp [results, Tryz.results38, go_sem]), _, rfl, by rw [HRL.out]; exact OI.nil _ _ _ _, HB1.out⟩
end Go.Proofs.YtpkpadepccneeaaGreatDoor.W
