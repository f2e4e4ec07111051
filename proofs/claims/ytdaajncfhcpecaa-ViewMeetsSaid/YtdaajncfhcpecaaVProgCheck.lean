/- The walk of chapter 8's Check, the program's. No condition. -/
import Derived.Test.YtdaajncfhcpecaaVFar
import Derived.Test.YtdaajncfhcpecaaVRefCheck
import Derived.Test.YtdaajncfhcpecaaAllMine
import Derived.Sort.CutIn
namespace Go.Proofs.Ytdaajncfhcpecaa
set_option linter.unusedVariables false
set_option linter.unusedSimpArgs false
open Go Go.RowKit Go.Shelf
attribute [local go_sem] Oper.semAt_some
theorem madeFlags (n : Nat) : madeCells #[Value.bool false] n = flags (List.replicate n false) := by
  apply Array.toList_inj.1
  rw [toList_madeCells_one]
  simp [flags]
theorem info4 : (Try.prog.info? 4).map (fun i => (i.zero, i.size, i.bytes)) = some (some (.bool false), 1, 1) := by kernel_rfl
theorem under74 : Try.prog.underlying 74 = some (.slice 4) := by kernel_rfl
theorem make74 (n : Nat) (hn : n ≤ 4096) (W : World) : (Instr.makeSlice 74 (.int .i64 (n : Int)) (.int .i64 (n : Int))).run Try.prog W = .ok (.slice (some ⟨W.heap.size, 0, none⟩) n n) (W.alloc (.cells (flags (List.replicate n false)) 4)) := by
  obtain ⟨i0, h1, h2, h3, h4⟩ := info_parts info4
  have h := run_make (P := Try.prog) W 74 4 i0 (.bool false) under74 h1 h2 .i64 .i64 (n : Int) (n : Int) (by omega) (Int.le_refl _) (by rw [h4]; omega) (by omega)
  rw [h3] at h
  simp only [Int.toNat_natCast, Nat.mul_one] at h
  rw [h]
  show Result.ok _ (W.alloc (.cells (madeCells #[Value.bool false] n) 4)) = _
  rw [madeFlags]
set_option maxHeartbeats 4000000 in
theorem Check_any (o : Int) (A B : Option Addr) (cp cq : Nat) (l s : List Int) (c : Int) (w : World) (hr : RI .i64 w A l) (hs : RI .i64 w B s) (hm : l.length ≤ 9223372036854775807) (hms : s.length ≤ 9223372036854775807) :
    Calls Try.prog 28 #[.agg (view o A l.length cp B s.length cq), .int .i64 c] w fun e w' => e = .returned (.int .i64 (V.check o l s c)) ∧ Below w.heap.size w w' := by
  have hr' := Lib.hid hr
  have hs' := Lib.hid hs
  have HC := Lib.hid (show V.check o l s c = if l.length ≠ s.length ∨ c < 0 ∨ 4096 < c then 1 else if (S.sizeS l).2 ≠ 0 then (S.sizeS l).2 else V.chk (V.cellOf o l s) (sizeN l) c from rfl)
  have HFAR := Lib.hid (V.check_far o l s c)
  generalize V.check o l s c = R at *
  clear hr hs
  refine (callsIn_wide (n := 9)).1 ?_
  refine callsIn_of_wp_marks Try.func28 rfl trivial ?_ rfl
  simp only [Try.ntmps28, List.size_toArray, List.length_cons, List.length_nil, Nat.reduceAdd, Nat.reduceSub, Array.replicate_succ, Array.replicate_zero, List.push_toArray, List.append_toArray, List.nil_append, List.cons_append]
  have Z2 := Blk.new w 49 (view o A l.length cp B s.length cq)
  have Z3 := Blk.new (w.alloc (.cells (view o A l.length cp B s.length cq) 49)) 3 #[.int .i64 c]
  have Z4 := Blk.new ((w.alloc (.cells (view o A l.length cp B s.length cq) 49)).alloc (.cells #[.int .i64 c] 3)) 24 #[.int .i64 0]
  rw [World.size_alloc] at Z3
  rw [World.size_alloc, World.size_alloc] at Z4
  have HZ2 := Lib.hid ((Z2.alloc (.cells #[.int .i64 c] 3)).alloc (.cells #[.int .i64 0] 24))
  have HZ3 := Lib.hid (Z3.alloc (.cells #[.int .i64 0] 24))
  have HZ4 := Lib.hid Z4
  have HZB := Lib.hid (show Below w.heap.size w (((w.alloc (.cells (view o A l.length cp B s.length cq) 49)).alloc (.cells #[.int .i64 c] 3)).alloc (.cells #[.int .i64 0] 24)) from (((Below.refl _ _).alloc (Nat.le_refl _) _).alloc (by simp) _).alloc (by simp; omega) _)
  have HBV := Lib.hid (show ∀ v, Below w.heap.size w (((w.alloc (.cells (view o A l.length cp B s.length cq) 49)).alloc (.cells #[.int .i64 c] 3)).alloc (.cells #[v] 24)) from fun v => (((Below.refl _ _).alloc (Nat.le_refl _) _).alloc (by simp) _).alloc (by simp; omega) _)
  clear Z2 Z3 Z4
  have HR1 := Lib.hid (hr'.out.below HZB.out)
  have HS1 := Lib.hid (hs'.out.below HZB.out)
  by_cases h1 : l.length = s.length
  · have hb : ((l.length : Int) != (s.length : Int)) = false := by simp [h1]
    have hb2 : ((l.length : Int) == (s.length : Int)) = true := by simp [h1]
    have HL := Lib.hid h1
    by_cases h2 : c < 0
    · have hb3 : decide (c < 0) = true := by simp; omega
      have HRR := Lib.hid (HC.out.trans (if_pos (by omega))).symm
      clear HC h1 HFAR
      have HBE := Lib.hid (HBV.out (.int .i64 1))
      gi_wp2
      exact ⟨.int .i64 1, by simp [results, Try.results28, go_sem], ret_int HRR.out, HBE.out⟩
    · have hb3 : decide (c < 0) = false := by simp; omega
      by_cases h3 : 4096 < c
      · have hb4 : decide (4096 < c) = true := by simp; omega
        have HRR := Lib.hid (HC.out.trans (if_pos (by omega))).symm
        clear HC h1 HFAR
        have HBE := Lib.hid (HBV.out (.int .i64 1))
        gi_wp2
        exact ⟨.int .i64 1, by simp [results, Try.results28, go_sem], ret_int HRR.out, HBE.out⟩
      · have HC2 := Lib.hid (HC.out.trans (if_neg (by omega)))
        have hb4 : decide (4096 < c) = false := by simp; omega
        have CS := Lib.hid (size_any A cp l _ HR1.out hm)
        clear HC h1
        by_cases hok : S.Ok l
        · obtain ⟨n, rfl⟩ : ∃ n : Nat, c = (n : Int) := ⟨c.toNat, by omega⟩
          have CN := Lib.hid (near_any o A B cp cq l s n _ HR1.out HS1.out HL.out.symm hms (by omega) (by omega))
          have hN := sizeN_ok hok
          rw [hok.size] at CS HC2
          have HP := Lib.hid (HC2.out.trans (if_neg (by simp)))
          clear HC2
          by_cases hnear : V.near o l s n
          · rw [V.nearB_true hnear] at CN
            have HNR := Lib.hid hnear
            have HN := Lib.hid hN
            have HMK := Lib.hid fun (W : World) => make74 n (by omega) W
            have HOK := Lib.hid hok
            clear HFAR hnear hN hok
            gi_wp2
            refine ⟨trivial, ?_⟩
            refine (callsIn_wide.2 CS.out).mono ?_
            rintro e w' ⟨rfl, rfl⟩
            gi_wp2
            refine ⟨trivial, ?_⟩
            refine (callsIn_wide.2 CN.out).mono ?_
            rintro e w1 ⟨rfl, hb1⟩
            have HK2 := Lib.hid (HZ2.out.below hb1 (by simp; omega))
            have HK3 := Lib.hid (HZ3.out.below hb1 (by simp))
            have HK4 := Lib.hid (HZ4.out.below hb1 (by simp))
            have HB1 := Lib.hid (below_then HZB.out HZB.out.size hb1)
            clear hb1 CS CN
            have c2 := HK2.out.cell 0
            have c21 := HK2.out.cell 1
            have c22 := HK2.out.cell 2
            have c3 := HK3.out.cell 0
            have hmk := HMK.out w1
            have Z5 := Blk.new w1 4 (flags (List.replicate n false))
            obtain ⟨FL, hFL⟩ : ∃ FL, flags (List.replicate n false) = FL := ⟨_, rfl⟩
            rw [hFL] at hmk Z5
            have HFL := Lib.hid hFL
            clear hFL
            have Z7 := Blk.new (w1.alloc (.cells FL 4)) 74 #[.slice (some ⟨w1.heap.size, 0, none⟩) n n]
            have Z8 := Blk.new ((w1.alloc (.cells FL 4)).alloc (.cells #[.slice (some ⟨w1.heap.size, 0, none⟩) n n] 74)) 4 #[.bool false]
            have ZX := Blk.new (((w1.alloc (.cells FL 4)).alloc (.cells #[.slice (some ⟨w1.heap.size, 0, none⟩) n n] 74)).alloc (.cells #[.bool false] 4)) 22 #[.slice A l.length cp]
            rw [World.size_alloc] at Z7
            rw [World.size_alloc, World.size_alloc] at Z8
            rw [World.size_alloc, World.size_alloc, World.size_alloc] at ZX
            have HS2 := Lib.hid HK4.out.lt
            have HV2 := Lib.hid (((HK2.out.alloc (.cells FL 4)).alloc (.cells #[.slice (some ⟨w1.heap.size, 0, none⟩) n n] 74)).alloc (.cells #[.bool false] 4))
            have HV3 := Lib.hid (((HK3.out.alloc (.cells FL 4)).alloc (.cells #[.slice (some ⟨w1.heap.size, 0, none⟩) n n] 74)).alloc (.cells #[.bool false] 4))
            have HV4 := Lib.hid (((HK4.out.alloc (.cells FL 4)).alloc (.cells #[.slice (some ⟨w1.heap.size, 0, none⟩) n n] 74)).alloc (.cells #[.bool false] 4))
            have V2 := Lib.hid (HV2.out.alloc (.cells #[.slice A l.length cp] 22))
            have V3 := Lib.hid (HV3.out.alloc (.cells #[.slice A l.length cp] 22))
            have V4 := Lib.hid (HV4.out.alloc (.cells #[.slice A l.length cp] 22))
            have V5 := Lib.hid (((Z5.alloc (.cells #[.slice (some ⟨w1.heap.size, 0, none⟩) n n] 74)).alloc (.cells #[.bool false] 4)).alloc (.cells #[.slice A l.length cp] 22))
            have V7 := Lib.hid ((Z7.alloc (.cells #[.bool false] 4)).alloc (.cells #[.slice A l.length cp] 22))
            have V8 := Lib.hid (Z8.alloc (.cells #[.slice A l.length cp] 22))
            have VX := Lib.hid ZX
            have VB := Lib.hid (show Below w.heap.size w ((((w1.alloc (.cells FL 4)).alloc (.cells #[.slice (some ⟨w1.heap.size, 0, none⟩) n n] 74)).alloc (.cells #[.bool false] 4)).alloc (.cells #[.slice A l.length cp] 22)) from by
              have hsz := HB1.out.size
              exact ((((HB1.out).alloc hsz _).alloc (by simp; omega) _).alloc (by simp; omega) _).alloc (by simp; omega) _)
            have VS := Lib.hid (show ((((w1.alloc (.cells FL 4)).alloc (.cells #[.slice (some ⟨w1.heap.size, 0, none⟩) n n] 74)).alloc (.cells #[.bool false] 4)).alloc (.cells #[.slice A l.length cp] 22)).heap.size = w1.heap.size + 4 by simp)
            clear Z5 Z7 Z8 ZX HMK
            have e21 := HV2.out.cell 1
            gi_wp2
            refine ⟨trivial, ?_⟩
            refine (callsIn_wide.2 (All_any _ _ _ _)).mono ?_
            rintro e w' ⟨rfl, rfl⟩
            gi_wp2
            have HCF := Lib.hid (show ∀ x, V.cellOf o l s x = V.cellR o s (S.pad (S.atL l x)) s.length from fun x => rfl)
            have HCS := Lib.hid fun (x : Nat) => V.cell_same o l s (S.pad (S.atL l x)) n (by omega) HNR.out (fun k => (V.pad_small_any HOK.out x k).1) (fun k _ h => (V.pad_small_any HOK.out x k).2.2 h) s.length (Nat.le_refl _)
            have HSM := Lib.hid fun (x : Nat) => V.pad_small_any HOK.out x
            have h4 := HOK.out.1
            have h4s : s.length ≤ 4 := by rw [← HL.out]; exact h4
            have HSW := Lib.hid HS2.out
            have HDZ := Lib.hid (V.dup_zero (V.through (V.cellOf o l s) []))
            have HSZ := Lib.hid (V.Seen.zero (V.through (V.cellOf o l s) []) n)
            clear HZ2 HZ3 HZ4 HZB HBV HR1 HS1 HK2 HK3 HK4 HV2 HV3 HV4 c2 c21 c22 c3 e21 hmk hb hb2 hb3 hb4 HB1
            generalize ((((w1.alloc (.cells FL 4)).alloc (.cells #[.slice (some ⟨w1.heap.size, 0, none⟩) n n] 74)).alloc (.cells #[.bool false] 4)).alloc (.cells #[.slice A l.length cp] 22)) = VW at *
            have hVS := VS.out
            have hS2 := HSW.out
            generalize w1.heap.size = s1 at *
            generalize V.cellOf o l s = f at *
            refine RangeC.range_law (n := 9) (gf := 42) (lb := #[.pointer (some ⟨s1 + 1 + 1 + 1, 0, none⟩)]) rfl (by omega) rfl trivial (enters_of Try.func42 (by kernel_rfl) rfl)
              (All1_stops 8 (by omega) (s1 + 1 + 1 + 1) A cp l w VW hr'.out hm VB.out VX.out) Keep.trans
              (fun W o o' h => keep_putObj _ _ _ _ _ _ (by omega) (by omega) (by omega)) (Below.refl _ _) (fun _ => rfl)
              (fun pre W => Hid (Blk W w.heap.size 49 (view o A l.length cp B s.length cq)) ∧ Hid (Blk W (w.heap.size + 1) 3 #[.int .i64 n]) ∧ Hid (Blk W (w.heap.size + 1 + 1) 24 #[.int .i64 0]) ∧ Hid (Blk W (s1 + 1) 74 #[.slice (some ⟨s1, 0, none⟩) n n]) ∧
                (∃ fs : List Bool, fs.length = n ∧ Hid (V.Seen (V.through f pre) pre.length fs) ∧ Hid (Blk W s1 4 (flags fs))) ∧ Hid (Blk W (s1 + 1 + 1) 4 #[.bool (V.dupB (V.through f pre) pre.length)]) ∧
                Hid (∀ j, j < pre.length → 0 ≤ V.through f pre j ∧ V.through f pre j < n) ∧ Hid (Below w.heap.size w W))
              (fun c pre W => c = .ret ∧ (∃ j, j < pre.length ∧ ¬ (0 ≤ V.through f pre j ∧ V.through f pre j < n)) ∧ Hid (Blk W (w.heap.size + 1 + 1) 24 #[.int .i64 6]) ∧ Hid (Below w.heap.size w W))
              (fun pre X Y row hs hg hr => ⟨Lib.hid (hs.1.out.kept hg hr (by omega) (by omega)), Lib.hid (hs.2.1.out.kept hg hr (by omega) (by omega)), Lib.hid (hs.2.2.1.out.kept hg hr (by omega) (by omega)), Lib.hid (hs.2.2.2.1.out.kept hg hr (by omega) (by omega)), (by
                obtain ⟨fs, h1, h2, h3⟩ := hs.2.2.2.2.1
                exact ⟨fs, h1, h2, Lib.hid (h3.out.kept hg hr (by omega) (by omega))⟩), Lib.hid (hs.2.2.2.2.2.1.out.kept hg hr (by omega) (by omega)), hs.2.2.2.2.2.2.1, Lib.hid (below_kept hs.2.2.2.2.2.2.2.out (Nat.le_refl _) hg hr (by omega) (by omega))⟩)
              (fun c pre X Y row hs hg hr => ⟨hs.1, hs.2.1, Lib.hid (hs.2.2.1.out.kept hg hr (by omega) (by omega)), Lib.hid (below_kept hs.2.2.2.out (Nat.le_refl _) hg hr (by omega) (by omega))⟩)
              ⟨V2, V3, V4, V7, ⟨List.replicate n false, List.length_replicate .., HSZ, Lib.hid (by rw [HFL.out]; exact V5.out)⟩, Lib.hid (by rw [show V.dupB (V.through f []) ([] : List Nat).length = false from HDZ.out]; exact V8.out), Lib.hid (fun j hj => absurd hj (by simp)), VB⟩
              (fun x a' W => ∃ g, s1 + 4 ≤ g ∧ Blk W g 33 (idx l x) ∧ a' = { tmps := #[.agg (view o A l.length cp B s.length cq), .int .i64 n, .pointer (some ⟨w.heap.size, 0, none⟩), .pointer (some ⟨w.heap.size + 1, 0, none⟩), .pointer (some ⟨w.heap.size + 1 + 1, 0, none⟩), .int .i64 (S.prod l), .int .i64 0, .pointer (some ⟨s1 + 1, 0, none⟩), .pointer (some ⟨s1 + 1 + 1, 0, none⟩), undef, .pointer (some ⟨g, 0, none⟩), undef,
                .pointer (some ⟨w.heap.size, 1, none⟩), .slice A l.length cp, .int .i64 l.length, .pointer (some ⟨w.heap.size, 2, none⟩), .slice B s.length cq, .int .i64 s.length, .bool false, .bool false, .int .i64 n, .bool false, .bool false, .bool false, .int .i64 n, .bool false, .bool false, .tuple #[.int .i64 (S.prod l), .int .i64 0],
                .pointer (some ⟨w.heap.size, 1, none⟩), .slice A l.length cp, .tuple #[.int .i64 (S.prod l), .int .i64 0], .int .i64 (S.prod l), .int .i64 0, .int .i64 0, .bool false, undef, .agg (view o A l.length cp B s.length cq), .int .i64 n, .bool true, .bool false, .int .i64 n, .slice (some ⟨s1, 0, none⟩) n n,
                .pointer (some ⟨w.heap.size, 1, none⟩), .slice A l.length cp, .func (.func 42) #[] #[.pointer (some ⟨s1 + 1 + 1 + 1, 0, none⟩)], .int .i64 x, .agg (idx l x), undef, undef, undef, undef, undef, undef, undef, undef, undef, undef, undef, undef, undef, undef, undef, undef, undef, undef, undef, undef, undef], defers := [] })
              (fun x a' W o o' h ho ⟨g, h1, h2, h3⟩ => ⟨g, h1, h2.record h ho, h3⟩)
              ?assign ?body ?done ?stop
            case assign =>
              intro L pre x W K hi ho hK
              obtain ⟨a, b, c, d, hx⟩ : ∃ a b c d, idx l x = four a b c d := ⟨_, _, _, _, rfl⟩
              rw [hx] at hK ⊢
              have hW : s1 + 4 + 1 < W.heap.size := by
                obtain ⟨o, ho⟩ := ho
                have := (Array.getElem?_eq_some_iff.1 ho).1
                omega
              have HK := Lib.hid hK
              have HI := Lib.hid hi
              clear hK hi ho
              gi_wp2
              obtain ⟨I2, I3, I4, I7, ⟨fs, hfl, hse, I5⟩, I8, hin, IB⟩ := HI.out
              exact HK.out _ _ ((KeepsOthers.alloc _ _).from _) (Keep.alloc _ _ _ _ (by omega) _)
                ⟨Lib.hid (I2.out.alloc _), Lib.hid (I3.out.alloc _), Lib.hid (I4.out.alloc _), Lib.hid (I7.out.alloc _), ⟨fs, hfl, hse, Lib.hid (I5.out.alloc _)⟩, Lib.hid (I8.out.alloc _), hin, Lib.hid (IB.out.alloc IB.out.size _)⟩
                ⟨W.heap.size, by omega, Blk.new _ _ _, rfl⟩
            case body =>
              rintro L pre x a' W ⟨o', ho⟩ ⟨I2, I3, I4, I7, ⟨fs, hfl, HSE, I5⟩, I8, HIN, IB⟩ ⟨g, hg, hGB, rfl⟩ hlen _
              obtain ⟨a, b, c', d, hx⟩ := list_four (S.pad_length (x := S.atL l x) (by rw [S.atL_length]; exact h4))
              have hi : idx l x = four a b c' d := by unfold idx; rw [hx]; rfl
              rw [hi] at hGB ⊢
              have hsm := HSM.out x
              rw [hx] at hsm
              have CC := cell_any o A B cp cq l s n a b c' d W (hs'.out.below IB.out) h4s (by omega) (by omega) HNR.out (fun k => ⟨(hsm k).1, (hsm k).2.1⟩) (fun k _ h => (hsm k).2.2 h)
              have hcs := HCS.out x
              rw [hx] at hcs
              have hcf := HCF.out x
              rw [hx] at hcf
              rw [hcs, ← hcf] at CC
              have CC := Lib.hid CC
              clear hcs hcf hsm hx
              have c2 := I2.out.cell 0
              have c21 := I2.out.cell 1
              have c22 := I2.out.cell 2
              have g0 := hGB.cell 0
              have g1 := hGB.cell 1
              have g2 := hGB.cell 2
              have g3 := hGB.cell 3
              clear hi hGB ho
              gi_wp2
              refine ⟨trivial, ?_⟩
              refine (CallsIn.inRound L (callsIn_wide.2 CC.out)).mono ?_
              rintro e U ⟨rfl, hbu⟩
              have HB := Lib.hid hbu
              have J2 := Lib.hid (I2.out.below hbu I2.out.lt)
              have J3 := Lib.hid (I3.out.below hbu I3.out.lt)
              have J4 := Lib.hid (I4.out.below hbu I4.out.lt)
              have J5 := Lib.hid (I5.out.below hbu I5.out.lt)
              have J7 := Lib.hid (I7.out.below hbu I7.out.lt)
              have J8 := Lib.hid (I8.out.below hbu I8.out.lt)
              have JB := Lib.hid (IB.out.trans (HB.out.mono IB.out.size))
              have HKF := Lib.hid (keepsFrom_of_all (B := VW.heap.size) HB.out)
              clear hbu c2 c21 c22 g0 g1 g2 g3 CC
              have c3 := J3.out.cell 0
              have c4 := J4.out.cell 0
              have f4 := J4.out.frozen 0
              by_cases hneg : f x < 0
              · have hd : decide (f x < 0) = true := by simp [hneg]
                gi_wp2
                exact ⟨HKF.out.trans ((KeepsOthers.setCell _ _ _).from _), rfl, V.more_out (by omega), Lib.hid (J4.out.set_ 0 (.int .i64 6)), Lib.hid (JB.out.setCell (p := ⟨w.heap.size + 1 + 1, 0, none⟩) (by simp; omega) _)⟩
              · by_cases hge : n ≤ f x
                · have hd : decide (f x < 0) = false := by simp; omega
                  have hd2 : decide (n ≤ f x) = true := by simp [hge]
                  gi_wp2
                  exact ⟨HKF.out.trans ((KeepsOthers.setCell _ _ _).from _), rfl, V.more_out (by omega), Lib.hid (J4.out.set_ 0 (.int .i64 6)), Lib.hid (JB.out.setCell (p := ⟨w.heap.size + 1 + 1, 0, none⟩) (by simp; omega) _)⟩
                · obtain ⟨y, hxf⟩ : ∃ y : Nat, f x = (y : Int) := ⟨(f x).toNat, by omega⟩
                  have hyl : y < fs.length := by omega
                  have HSE2 := Lib.hid (V.more_seen HSE.out hxf hyl)
                  have HDE := Lib.hid (V.more_dup HSE.out hxf)
                  have HIN2 := Lib.hid (V.more_in HIN.out (n := x) (by omega))
                  have hfy := (J5.out.cell y).trans (flags_get fs hyl)
                  have hfr := J5.out.frozen y
                  have c7 := J7.out.cell 0
                  have hy0 : (0 : Int) ≤ (y : Int) := by omega
                  have hyn : (y : Int) < n := by omega
                  have hyn' : y < n := by omega
                  have hd : decide ((y : Int) < 0) = false := by simp
                  have hd2 : decide ((n : Int) ≤ (y : Int)) = false := by simp; omega
                  have hsl : (fs.set y true).length = n := by rw [List.length_set]; exact hfl
                  rw [hxf]
                  clear hneg hge hxf hyl hfl HSE
                  generalize fs.getD y false = b0 at *
                  have K8 := J8.out
                  have hde := HDE.out
                  clear HDE J8 I8
                  cases hb : V.dupB (V.through f pre) pre.length
                  all_goals
                    rw [hb] at K8 hde
                    have HDE := Lib.hid hde
                    have J8 := Lib.hid K8
                    have c8 := K8.cell 0
                    have f8 := K8.frozen 0
                    clear hde K8 hb
                    gi_wp2
                    refine ⟨HKF.out.trans (((KeepsOthers.setCell _ _ _).trans (KeepsOthers.setCell _ _ _)).from _), ?_, ?_⟩
                    · exact Keep.trans (keep_of_all HB.out IB.out.size) (Keep.trans (Keep.of_grown (by simp; omega) (by simp) (by simp; omega) _) (Keep.of_grown (by simp; omega) (by simp; omega) (by simp; omega) _))
                    · refine ⟨Lib.hid ((J2.out.far (show w.heap.size ≠ s1 + 1 + 1 by omega) _).far (show w.heap.size ≠ s1 by omega) _), Lib.hid ((J3.out.far (show w.heap.size + 1 ≠ s1 + 1 + 1 by omega) _).far (show w.heap.size + 1 ≠ s1 by omega) _), Lib.hid ((J4.out.far (show w.heap.size + 1 + 1 ≠ s1 + 1 + 1 by omega) _).far (show w.heap.size + 1 + 1 ≠ s1 by omega) _),
                        Lib.hid ((J7.out.far (show s1 + 1 ≠ s1 + 1 + 1 by omega) _).far (show s1 + 1 ≠ s1 by omega) _), ⟨fs.set y true, hsl, HSE2, Lib.hid ?_⟩, Lib.hid ?_, HIN2, Lib.hid ((JB.out.setCell (p := ⟨s1 + 1 + 1, 0, none⟩) (by simp; omega) _).setCell (p := ⟨s1, y, none⟩) (by simp; omega) _)⟩
                      · have h := fun u => (J5.out.far (p := ⟨s1 + 1 + 1, 0, none⟩) (show s1 ≠ s1 + 1 + 1 by omega) u).set_ y (.bool true)
                        simp only [flags_set] at h
                        exact h _
                      · rw [HDE.out]
                        exact (J8.out.set_ 0 _).far (show s1 + 1 + 1 ≠ s1 by omega) _
            case done =>
              rintro D xs U hD rfl ⟨I2, I3, I4, I7, ⟨fs, hfl, HSE, I5⟩, I8, HIN, IB⟩ hDK
              have hR := HP.out.trans (V.in_range HIN.out)
              have K8 := I8.out
              have c4 := I4.out.cell 0
              have f4 := I4.out.frozen 0
              clear I8
              cases hb : V.dupB (V.through f (List.range (sizeN l))) (List.range (sizeN l)).length with
              | true =>
                rw [hb] at K8 hR
                have HRR := Lib.hid (hR.trans (if_pos rfl)).symm
                have c8 := K8.cell 0
                clear hR K8 hb
                have hDK2 := Lib.hid ((KeepsOthers.setCell U ⟨w.heap.size + 1 + 1, 0, none⟩ (.int .i64 7)).same D _ hDK rfl)
                have HJ4 := Lib.hid ((I4.out.set_ 0 (.int .i64 7)).record (o' := .deferred none) hDK2.out rfl)
                have d4 := HJ4.out.cell 0
                have HBE := Lib.hid ((IB.out.setCell (p := ⟨w.heap.size + 1 + 1, 0, none⟩) (by simp; omega) (.int .i64 7)).trans (below_putObj w.heap.size (U.setCell ⟨w.heap.size + 1 + 1, 0, none⟩ (.int .i64 7)) D (.deferred none) (by omega)))
                clear hDK
                dsimp only
                gi_wp2
                refine ⟨by simp, .inl ⟨_, _, rfl, run_takeDeferred hDK2.out, ?_⟩⟩
                exact ⟨.int .i64 7, by simp [results, Try.results28, go_sem, d4], ret_int HRR.out, HBE.out⟩
              | false =>
                rw [hb] at K8 hR
                have HRR := Lib.hid (hR.trans (if_neg (by decide))).symm
                have c8 := K8.cell 0
                clear hR K8 hb
                have hDK2 := Lib.hid ((KeepsOthers.setCell U ⟨w.heap.size + 1 + 1, 0, none⟩ (.int .i64 0)).same D _ hDK rfl)
                have HJ4 := Lib.hid ((I4.out.set_ 0 (.int .i64 0)).record (o' := .deferred none) hDK2.out rfl)
                have d4 := HJ4.out.cell 0
                have HBE := Lib.hid ((IB.out.setCell (p := ⟨w.heap.size + 1 + 1, 0, none⟩) (by simp; omega) (.int .i64 0)).trans (below_putObj w.heap.size (U.setCell ⟨w.heap.size + 1 + 1, 0, none⟩ (.int .i64 0)) D (.deferred none) (by omega)))
                clear hDK
                dsimp only
                gi_wp2
                refine ⟨by simp, .inl ⟨_, _, rfl, run_takeDeferred hDK2.out, ?_⟩⟩
                exact ⟨.int .i64 0, by simp [results, Try.results28, go_sem, d4], ret_int HRR.out, HBE.out⟩
            case stop =>
              rintro D c pre U hD ⟨m, h1, h2, rfl⟩ ⟨rfl, hout, I4, IB⟩ hDK
              have HRR := Lib.hid (HP.out.trans (V.out_range h2 hout)).symm
              have hDK2 := Lib.hid hDK
              have HJ4 := Lib.hid (I4.out.record (o' := .deferred none) hDK rfl)
              have d4 := HJ4.out.cell 0
              have HBE := Lib.hid (IB.out.trans (below_putObj w.heap.size U D (.deferred none) (by omega)))
              clear hout hDK
              dsimp only
              gi_wp2
              refine ⟨by simp, .inl ⟨_, _, rfl, run_takeDeferred hDK2.out, ?_⟩⟩
              exact ⟨.int .i64 6, by simp [results, Try.results28, go_sem, d4], ret_int HRR.out, HBE.out⟩
          · rw [V.nearB_false hnear] at CN
            have HRR := Lib.hid (HFAR.out hok HL.out (by omega) (by omega) hnear).symm
            have HNM := Lib.hid hok
            clear HP hok hnear hN HFAR
            gi_wp2
            refine ⟨trivial, ?_⟩
            refine (callsIn_wide.2 CS.out).mono ?_
            rintro e w' ⟨rfl, rfl⟩
            gi_wp2
            refine ⟨trivial, ?_⟩
            refine (callsIn_wide.2 CN.out).mono ?_
            rintro e w1 ⟨rfl, hb1⟩
            have HK4 := Lib.hid (HZ4.out.below hb1 HZ4.out.lt)
            have HB1 := Lib.hid (below_then HZB.out HZB.out.size hb1)
            clear hb1
            have c4 := HK4.out.cell 0
            have f4 := HK4.out.frozen 0
            have d4 := (HK4.out.set_ 0 (.int .i64 6)).cell 0
            have HBE := Lib.hid (HB1.out.setCell (p := ⟨w.heap.size + 1 + 1, 0, none⟩) (by simp; omega) (.int .i64 6))
            gi_wp2
            exact ⟨.int .i64 6, by simp [results, Try.results28, go_sem, d4], ret_int HRR.out, HBE.out⟩
        · clear HFAR
          rcases S.size_cases l with ho | ⟨_, he⟩ | ⟨_, he⟩
          · exact absurd ho hok
          · rw [he] at HC2 CS
            have HRR := Lib.hid (HC2.out.trans (if_pos (by simp))).symm
            clear HC2 he
            have HBE := Lib.hid (HBV.out (.int .i64 1))
            gi_wp2
            refine ⟨trivial, ?_⟩
            refine (callsIn_wide.2 CS.out).mono ?_
            rintro e w' ⟨rfl, rfl⟩
            gi_wp2
            exact ⟨.int .i64 1, by simp [results, Try.results28, go_sem], ret_int HRR.out, HBE.out⟩
          · rw [he] at HC2 CS
            have HRR := Lib.hid (HC2.out.trans (if_pos (by simp))).symm
            clear HC2 he
            have HBE := Lib.hid (HBV.out (.int .i64 5))
            gi_wp2
            refine ⟨trivial, ?_⟩
            refine (callsIn_wide.2 CS.out).mono ?_
            rintro e w' ⟨rfl, rfl⟩
            gi_wp2
            exact ⟨.int .i64 5, by simp [results, Try.results28, go_sem], ret_int HRR.out, HBE.out⟩
  · have hb : ((l.length : Int) != (s.length : Int)) = true := by simp; omega
    have hb2 : ((l.length : Int) == (s.length : Int)) = false := by simp; omega
    have HRR := Lib.hid (HC.out.trans (if_pos (.inl h1))).symm
    clear HC h1 HFAR
    have HBE := Lib.hid (HBV.out (.int .i64 1))
    gi_wp2
    exact ⟨.int .i64 1, by simp [results, Try.results28, go_sem], ret_int HRR.out, HBE.out⟩
end Go.Proofs.Ytdaajncfhcpecaa
