/- The walk of the law ShapeAll, out of contracts. No condition. -/
import Derived.Test.YtdaajncfhcpecaaAllMine
import Derived.Sort.CutIn
namespace Go.Proofs.Ytdaajncfhcpecaa
set_option linter.unusedVariables false
set_option linter.unusedSimpArgs false
open Go Go.RowKit Go.Shelf
attribute [local go_sem] Oper.semAt_some
set_option maxHeartbeats 2000000 in
theorem all_law (A : Option Addr) (cp : Nat) (l : List Int) (stop : Int) (w : World) (hr : RI .i64 w A l) (hm : l.length ≤ 9223372036854775807) (hcap : l.length ≤ cp) :
    Calls Try.prog 6 #[.slice A l.length cp, .int .i64 stop] w fun e w' => e = .returned (.bool true) ∧ Below w.heap.size w w' := by
  have hr' := Lib.hid hr
  clear hr
  refine (callsIn_wide (n := 9)).1 ?_
  refine callsIn_of_wp_marks Try.func6 rfl trivial ?_ rfl
  simp only [Try.ntmps6, List.size_toArray, List.length_cons, List.length_nil, Nat.reduceAdd, Nat.reduceSub, Array.replicate_succ, Array.replicate_zero, List.push_toArray, List.append_toArray, List.nil_append, List.cons_append]
  have Z2 := Blk.new w 22 #[.slice A l.length cp]
  have Z3 := Blk.new (w.alloc (.cells #[.slice A l.length cp] 22)) 3 #[.int .i64 stop]
  have Z4 := Blk.new ((w.alloc (.cells #[.slice A l.length cp] 22)).alloc (.cells #[.int .i64 stop] 3)) 4 #[.bool false]
  rw [World.size_alloc] at Z3
  rw [World.size_alloc, World.size_alloc] at Z4
  have HZ2 := Lib.hid ((Z2.alloc (.cells #[.int .i64 stop] 3)).alloc (.cells #[.bool false] 4))
  have HZ3 := Lib.hid (Z3.alloc (.cells #[.bool false] 4))
  have HZ4 := Lib.hid Z4
  have HZB := Lib.hid (show Below w.heap.size w (((w.alloc (.cells #[.slice A l.length cp] 22)).alloc (.cells #[.int .i64 stop] 3)).alloc (.cells #[.bool false] 4)) from (((Below.refl _ _).alloc (Nat.le_refl _) _).alloc (by simp) _).alloc (by simp; omega) _)
  clear Z2 Z3 Z4
  gi_wp2
  refine ⟨trivial, ?_⟩
  refine (callsIn_wide.2 (alive_any _)).mono ?_
  rintro e w1 ⟨rfl, hb1⟩
  have HK2 := Lib.hid (HZ2.out.below hb1 (by simp; omega))
  have HK3 := Lib.hid (HZ3.out.below hb1 (by simp))
  have HK4 := Lib.hid (HZ4.out.below hb1 (by simp))
  have HB1 := Lib.hid (below_then HZB.out HZB.out.size hb1)
  have HR1 := Lib.hid (hr'.out.below HB1.out)
  clear hb1
  have c2 := HK2.out.cell 0
  have c3 := HK3.out.cell 0
  have c4 := HK4.out.cell 0
  have f4 := HK4.out.frozen 0
  by_cases h100 : 100 < l.length
  · have d4 := (HK4.out.set_ 0 (.bool true)).cell 0
    have HBE := Lib.hid (HB1.out.setCell (p := ⟨w.heap.size + 1 + 1, 0, none⟩) (by simp; omega) (.bool true))
    gi_wp2
    exact ⟨.bool true, by simp [results, Try.results6, go_sem, d4], rfl, HBE.out⟩
  · have CS := Lib.hid (refSize_any A cp l w1 HR1.out hm)
    obtain ⟨sz, hsz⟩ : ∃ sz, (S.sizeS l).1 = sz := ⟨_, rfl⟩
    obtain ⟨er, her⟩ : ∃ er, (S.sizeS l).2 = er := ⟨_, rfl⟩
    have hsz := Lib.hid hsz
    have her := Lib.hid her
    have CS2 := CS.out
    rw [hsz.out, her.out] at CS2
    have CS := Lib.hid CS2
    clear CS2
    have Z5 := Blk.new w1 3 #[.int .i64 sz]
    have Z6 := Blk.new (w1.alloc (.cells #[.int .i64 sz] 3)) 3 #[.int .i64 er]
    have Z7 := Blk.new ((w1.alloc (.cells #[.int .i64 sz] 3)).alloc (.cells #[.int .i64 er] 3)) 3 #[.int .i64 0]
    rw [World.size_alloc] at Z6
    rw [World.size_alloc, World.size_alloc] at Z7
    have HL5 := Lib.hid ((Z5.alloc (.cells #[.int .i64 er] 3)).alloc (.cells #[.int .i64 0] 3))
    have HL6 := Lib.hid (Z6.alloc (.cells #[.int .i64 0] 3))
    have HL7 := Lib.hid Z7
    have HL2 := Lib.hid (((HK2.out.alloc (.cells #[.int .i64 sz] 3)).alloc (.cells #[.int .i64 er] 3)).alloc (.cells #[.int .i64 0] 3))
    have HL3 := Lib.hid (((HK3.out.alloc (.cells #[.int .i64 sz] 3)).alloc (.cells #[.int .i64 er] 3)).alloc (.cells #[.int .i64 0] 3))
    have HL4 := Lib.hid (((HK4.out.alloc (.cells #[.int .i64 sz] 3)).alloc (.cells #[.int .i64 er] 3)).alloc (.cells #[.int .i64 0] 3))
    have HS2 := Lib.hid HK4.out.lt
    have HBL := Lib.hid (show Below w.heap.size w (((w1.alloc (.cells #[.int .i64 sz] 3)).alloc (.cells #[.int .i64 er] 3)).alloc (.cells #[.int .i64 0] 3)) from
      (((HB1.out).alloc HB1.out.size _).alloc (by have := HB1.out.size; simp; omega) _).alloc (by have := HB1.out.size; simp; omega) _)
    clear Z5 Z6 Z7
    have e2 := HL2.out.cell 0
    gi_wp2
    refine ⟨trivial, ?_⟩
    refine (callsIn_wide.2 CS.out).mono ?_
    rintro e w' ⟨rfl, rfl⟩
    gi_wp2
    refine ⟨trivial, ?_⟩
    refine (callsIn_wide.2 (All_any _ _ _ _)).mono ?_
    rintro e w' ⟨rfl, rfl⟩
    gi_wp2
    have ZX := Blk.new (((w1.alloc (.cells #[.int .i64 sz] 3)).alloc (.cells #[.int .i64 er] 3)).alloc (.cells #[.int .i64 0] 3)) 22 #[.slice A l.length cp]
    rw [World.size_alloc, World.size_alloc, World.size_alloc] at ZX
    have V2 := Lib.hid (HL2.out.alloc (.cells #[.slice A l.length cp] 22))
    have V3 := Lib.hid (HL3.out.alloc (.cells #[.slice A l.length cp] 22))
    have V4 := Lib.hid (HL4.out.alloc (.cells #[.slice A l.length cp] 22))
    have V5 := Lib.hid (HL5.out.alloc (.cells #[.slice A l.length cp] 22))
    have V6 := Lib.hid (HL6.out.alloc (.cells #[.slice A l.length cp] 22))
    have V7 := Lib.hid (HL7.out.alloc (.cells #[.slice A l.length cp] 22))
    have VX := Lib.hid ZX
    have VB := Lib.hid (HBL.out.alloc HBL.out.size (.cells #[.slice A l.length cp] 22))
    have VS := Lib.hid (show ((((w1.alloc (.cells #[.int .i64 sz] 3)).alloc (.cells #[.int .i64 er] 3)).alloc (.cells #[.int .i64 0] 3)).alloc (.cells #[.slice A l.length cp] 22)).heap.size = w1.heap.size + 4 by simp)
    clear ‹(l.length : Int) ≤ 100› ZX HL2 HL3 HL4 HL5 HL6 HL7 HBL e2 c2 c3 c4 f4 HK2 HK3 HK4 HR1 HZ2 HZ3 HZ4 HZB CS
    have HS1 := Lib.hid HB1.out.size
    clear HB1
    generalize ((((w1.alloc (.cells #[.int .i64 sz] 3)).alloc (.cells #[.int .i64 er] 3)).alloc (.cells #[.int .i64 0] 3)).alloc (.cells #[.slice A l.length cp] 22)) = V at *
    have hVS := VS.out
    have hS2 := HS2.out
    have hS1 := HS1.out
    generalize w1.heap.size = s1 at *
    refine RangeC.range_law (n := 9) (gf := 42) (lb := #[.pointer (some ⟨s1 + 1 + 1 + 1, 0, none⟩)]) rfl (by omega) rfl trivial (enters_of Try.func42 (by kernel_rfl) rfl)
      (All1_stops 8 (by omega) (s1 + 1 + 1 + 1) A cp l w V hr'.out hm VB.out VX.out) Keep.trans
      (fun W o o' h => keep_putObj _ _ _ _ _ _ (by omega) (by omega) (by omega)) (Below.refl _ _) (fun _ => rfl)
      (fun pre W => pre = List.range pre.length ∧ Hid (Blk W w.heap.size 22 #[.slice A l.length cp]) ∧ Hid (Blk W (w.heap.size + 1) 3 #[.int .i64 stop]) ∧ Hid (Blk W (w.heap.size + 1 + 1) 4 #[.bool false]) ∧
        Hid (Blk W s1 3 #[.int .i64 sz]) ∧ Hid (Blk W (s1 + 1) 3 #[.int .i64 er]) ∧ Hid (Blk W (s1 + 1 + 1) 3 #[.int .i64 pre.length]) ∧ Hid (Below w.heap.size w W))
      (fun c pre W => (c = .ret ∧ pre ≠ List.range pre.length) ∨ (c = .exit 0 ∧ (pre.length : Int) = stop ∧ Hid (Blk W (w.heap.size + 1) 3 #[.int .i64 stop]) ∧ Hid (Blk W (w.heap.size + 1 + 1) 4 #[.bool false]) ∧
        Hid (Blk W s1 3 #[.int .i64 sz]) ∧ Hid (Blk W (s1 + 1 + 1) 3 #[.int .i64 pre.length]) ∧ Hid (Below w.heap.size w W)))
      (fun s X Y row hs hg hr => ⟨hs.1, Lib.hid (hs.2.1.out.kept hg hr (by omega) (by omega)), Lib.hid (hs.2.2.1.out.kept hg hr (by omega) (by omega)), Lib.hid (hs.2.2.2.1.out.kept hg hr (by omega) (by omega)),
        Lib.hid (hs.2.2.2.2.1.out.kept hg hr (by omega) (by omega)), Lib.hid (hs.2.2.2.2.2.1.out.kept hg hr (by omega) (by omega)), Lib.hid (hs.2.2.2.2.2.2.1.out.kept hg hr (by omega) (by omega)), Lib.hid (below_kept hs.2.2.2.2.2.2.2.out (Nat.le_refl _) hg hr (by omega) (by omega))⟩)
      (fun c s X Y row hs hg hr => by
        rcases hs with h | ⟨h1, h2, h3, h4, h5, h6, h7⟩
        · exact .inl h
        · exact .inr ⟨h1, h2, Lib.hid (h3.out.kept hg hr (by omega) (by omega)), Lib.hid (h4.out.kept hg hr (by omega) (by omega)), Lib.hid (h5.out.kept hg hr (by omega) (by omega)), Lib.hid (h6.out.kept hg hr (by omega) (by omega)), Lib.hid (below_kept h7.out (Nat.le_refl _) hg hr (by omega) (by omega))⟩)
      ⟨rfl, V2, V3, V4, V5, V6, V7, VB⟩
      (fun x a' W => ∃ g, s1 + 4 ≤ g ∧ Blk W g 33 (idx l x) ∧ a' = { tmps := #[.slice A l.length cp, .int .i64 stop, .pointer (some ⟨w.heap.size, 0, none⟩), .pointer (some ⟨w.heap.size + 1, 0, none⟩), .pointer (some ⟨w.heap.size + 1 + 1, 0, none⟩),
        .pointer (some ⟨s1, 0, none⟩), .pointer (some ⟨s1 + 1, 0, none⟩), .pointer (some ⟨s1 + 1 + 1, 0, none⟩), .int .i64 x, .pointer (some ⟨g, 0, none⟩), .bool true, .bool false, .slice A l.length cp, .int .i64 l.length, .bool (decide (100 < (l.length : Int))), .tuple #[.int .i64 sz, .int .i64 er], .slice A l.length cp, .tuple #[.int .i64 sz, .int .i64 er], .int .i64 sz, .int .i64 er, .slice A l.length cp,
        .func (.func 42) #[] #[.pointer (some ⟨s1 + 1 + 1 + 1, 0, none⟩)], .int .i64 x, .agg (idx l x), undef, undef, undef, undef, undef, undef, undef, undef, undef, undef, undef, undef, undef, undef, undef, undef, undef, undef, undef, undef, undef, undef, undef, undef, undef, undef, undef, undef, undef, undef, undef, undef], defers := [] })
      (fun x a' W o o' h ho ⟨g, h1, h2, h3⟩ => ⟨g, h1, h2.record h ho, h3⟩)
      ?assign ?body ?done ?stop
    case assign =>
      intro L pre x W K hi ho hK
      obtain ⟨a, b, c, d, hx⟩ : ∃ a b c d, idx l x = four a b c d := ⟨_, _, _, _, rfl⟩
      rw [hx] at hK ⊢
      have hW : s1 + 4 + 1 < W.heap.size := by
        obtain ⟨o, ho⟩ := ho
        have := (Array.getElem?_eq_some_iff.1 ho).1
        omega
      have HK := Lib.hid hK
      have HI := Lib.hid hi
      clear hK hi ho
      gi_wp2
      obtain ⟨hp, I2, I3, I4, I5, I6, I7, IB⟩ := HI.out
      exact HK.out _ _ ((KeepsOthers.alloc _ _).from _) (Keep.alloc _ _ _ _ (by omega) _)
        ⟨hp, Lib.hid (I2.out.alloc _), Lib.hid (I3.out.alloc _), Lib.hid (I4.out.alloc _), Lib.hid (I5.out.alloc _), Lib.hid (I6.out.alloc _), Lib.hid (I7.out.alloc _), Lib.hid (IB.out.alloc IB.out.size _)⟩
        ⟨W.heap.size, by omega, Blk.new _ _ _, rfl⟩
    case body =>
      rintro L pre x a' W ⟨o, ho⟩ ⟨hp, I2, I3, I4, I5, I6, I7, IB⟩ ⟨g, hg, hGB, rfl⟩ hlen
      have hok : S.Ok l := Classical.byContradiction fun h => by rw [sizeN_no h] at hlen; omega
      have hN := sizeN_ok hok
      obtain rfl : er = 0 := by rw [← her.out, hok.size]
      have hsN : (pre.length : Int) < sz := by rw [← hsz.out, hok.size]; show _ < S.prod l; omega
      have hle : sz ≤ 4096 := by rw [← hsz.out, hok.size]; exact hok.2.2
      obtain ⟨a, b, c, d, hx⟩ := list_four (S.pad_length (x := S.atL l x) (by rw [S.atL_length]; exact hok.1))
      have hi : idx l x = four a b c d := by unfold idx; rw [hx]; rfl
      rw [hi] at hGB ⊢
      have c2 := I2.out.cell 0
      have c3 := I3.out.cell 0
      have c5 := I5.out.cell 0
      have c6 := I6.out.cell 0
      have c7 := I7.out.cell 0
      have g0 := hGB.cell 0
      have g1 := hGB.cell 1
      have g2 := hGB.cell 2
      have g3 := hGB.cell 3
      have HGB := Lib.hid hGB
      have HO := Lib.hid ho
      have HN := Lib.hid hN
      have HP := Lib.hid hp
      clear hi hGB ho hN hp
      by_cases hxk : x = pre.length
      · have CR := Lib.hid fun (U : World) (h : RI .i64 U A l) => refAt_any A cp l x a b c d U h hcap hok (by omega) (by omega) hx
        have CRD := Lib.hid (CR.out W.drew ((hr'.out.below IB.out).drewN 1))
        clear CR
        clear hx hok
        subst hxk
        have hge : decide (sz ≤ (pre.length : Int)) = false := by simp; omega
        have hn := fun (U : World) => neq_four 32 arr32 a b c d U
        simp only [four] at hn
        gi_wp2
        gi_cut [42] from 24 (fun c wx => c = .bool false ∧ Hid (Below W.drew.heap.size W.drew wx))
        case first =>
          gi_region_with (refine ⟨trivial, ?_⟩; gi_at_call 23; refine (CallsIn.inRound L (callsIn_wide.2 CRD.out)).mono ?_; rintro e U ⟨rfl, hbu⟩; (have hG := (HGB.out.drewN 1).below hbu HGB.out.lt); have u0 := hG.cell 0; have u1 := hG.cell 1; have u2 := hG.cell 2; have u3 := hG.cell 3; have HBU := Lib.hid hbu; clear hG hbu)
          all_goals (gi_wp2; gi_meet; exact ⟨rfl, HBU⟩)
        case rest =>
          obtain ⟨rfl, HBU⟩ := hcut
          have HB := Lib.hid (show Below W.heap.size W wc from ⟨HBU.out.os, HBU.out.tape, HBU.out.output, HBU.out.size, HBU.out.block⟩)
          have J2 := Lib.hid (I2.out.below HB.out I2.out.lt)
          have J3 := Lib.hid (I3.out.below HB.out I3.out.lt)
          have J4 := Lib.hid (I4.out.below HB.out I4.out.lt)
          have J5 := Lib.hid (I5.out.below HB.out I5.out.lt)
          have J6 := Lib.hid (I6.out.below HB.out I6.out.lt)
          have J7 := Lib.hid (I7.out.below HB.out I7.out.lt)
          have HKF := Lib.hid (keepsFrom_of_all (B := V.heap.size) HB.out)
          clear c2 c3 c5 c6 c7 g0 g1 g2 g3
          have c7 := J7.out.cell 0
          have f7 := J7.out.frozen 0
          have c3 := J3.out.cell 0
          have hl6 : (pre.length : Int) ≤ 4096 := by omega
          by_cases hstop : (pre.length : Int) + 1 = stop
          · have hsb : (((pre.length : Int) + 1) == stop) = true := by simp [hstop]
            have hsd : decide ((pre.length : Int) + 1 = stop) = true := by simp [hstop]
            gi_wp2
            refine ⟨?_, .inr ⟨rfl, by simp; omega, Lib.hid (J3.out.far (by simp; omega) _), Lib.hid (J4.out.far (by simp; omega) _), Lib.hid (J5.out.far (show s1 ≠ s1 + 1 + 1 by omega) _), Lib.hid ?_, Lib.hid ((IB.out.trans (HB.out.mono IB.out.size)).setCell (p := ⟨s1 + 1 + 1, 0, none⟩) (by simp; omega) _)⟩⟩
            · exact HKF.out.trans ((KeepsOthers.setCell _ _ _).from _)
            · have h := J7.out.set_ 0 (.int .i64 stop)
              rw [show (((pre ++ [pre.length]).length : Nat) : Int) = stop from by simp; omega]
              exact h
          · have hsb : (((pre.length : Int) + 1) == stop) = false := by simp [hstop]
            have hsd : decide ((pre.length : Int) + 1 = stop) = false := by simp [hstop]
            gi_wp2
            refine ⟨?_, ?_, ?_, Lib.hid (J2.out.far (by simp; omega) _), Lib.hid (J3.out.far (by simp; omega) _), Lib.hid (J4.out.far (by simp; omega) _), Lib.hid (J5.out.far (show s1 ≠ s1 + 1 + 1 by omega) _), Lib.hid (J6.out.far (show s1 + 1 ≠ s1 + 1 + 1 by omega) _), Lib.hid ?_, Lib.hid ?_⟩
            · exact HKF.out.trans ((KeepsOthers.setCell _ _ _).from _)
            · exact Keep.trans (keep_of_all HB.out IB.out.size) (Keep.of_grown (by simp; omega) (by simp) (by simp; omega) _)
            · rw [show (pre ++ [pre.length]).length = pre.length + 1 by simp, List.range_succ, ← HP.out]
            · have h := J7.out.set_ 0 (.int .i64 ((pre.length : Int) + 1))
              rw [show (((pre ++ [pre.length]).length : Nat) : Int) = (pre.length : Int) + 1 from by simp]
              exact h
            · exact (IB.out.trans (HB.out.mono IB.out.size)).setCell (p := ⟨s1 + 1 + 1, 0, none⟩) (by simp; omega) _
      · clear hx hok
        have hne : ((x : Int) != (pre.length : Int)) = true := by simp; omega
        have hne2 : ((x : Int) == (pre.length : Int)) = false := by simp; omega
        have hne3 : decide ((x : Int) = (pre.length : Int)) = false := by simp; omega
        have c4 := I4.out.cell 0
        have f4 := I4.out.frozen 0
        gi_wp2
        gi_region_with (refine ⟨trivial, ?_⟩)
        all_goals gi_wp2
        all_goals exact ⟨((KeepsOthers.drew _).trans (KeepsOthers.setCell _ _ _)).from _, .inl ⟨rfl, fun h => hxk (by
          rw [show (pre ++ [x]).length = pre.length + 1 by simp, List.range_succ, ← HP.out] at h
          simpa using h)⟩⟩
    case done =>
      rintro D xs U hD rfl ⟨hp, I2, I3, I4, I5, I6, I7, IB⟩ hDK
      have hlen : ((List.range (sizeN l)).length : Int) = sz := by
        rw [List.length_range, ← hsz.out]
        unfold sizeN
        rcases S.size_cases l with ho | ⟨_, he⟩ | ⟨_, he⟩
        · have := ho.pos
          rw [ho.size]
          show (((S.prod l).toNat : Nat) : Int) = S.prod l
          omega
        all_goals rw [he]; rfl
      have I7' := I7.out
      rw [hlen] at I7'
      have c3 := I3.out.cell 0
      have c5 := I5.out.cell 0
      have c7 := I7'.cell 0
      have f4 := I4.out.frozen 0
      have d4 := I4.out.cell 0
      have hDK2 := Lib.hid ((KeepsOthers.setCell U ⟨w.heap.size + 1 + 1, 0, none⟩ (.bool true)).same D _ hDK rfl)
      have HJ4 := Lib.hid ((I4.out.set_ 0 (.bool true)).record (o' := .deferred none) hDK2.out rfl)
      have c4 := HJ4.out.cell 0
      have HBE := Lib.hid ((IB.out.setCell (p := ⟨w.heap.size + 1 + 1, 0, none⟩) (by simp; omega) (.bool true)).trans (below_putObj w.heap.size (U.setCell ⟨w.heap.size + 1 + 1, 0, none⟩ (.bool true)) D (.deferred none) (by omega)))
      clear hlen I7 I7' hp hDK
      by_cases hss : sz = stop
      · subst hss
        dsimp only
        gi_wp2
        refine ⟨by simp, .inl ⟨_, _, rfl, run_takeDeferred hDK2.out, ?_⟩⟩
        exact ⟨.bool true, by simp [results, Try.results6, go_sem, c4], rfl, HBE.out⟩
      · have h1 : (sz == stop) = false := by simp [hss]
        have h2 : decide (sz = stop) = false := by simp [hss]
        dsimp only
        gi_wp2
        refine ⟨by simp, .inl ⟨_, _, rfl, run_takeDeferred hDK2.out, ?_⟩⟩
        exact ⟨.bool true, by simp [results, Try.results6, go_sem, c4], rfl, HBE.out⟩
    case stop =>
      rintro D c pre U hD ⟨m, h1, h2, rfl⟩ (⟨rfl, hbad⟩ | ⟨rfl, hst, I3, I4, I5, I7, IB⟩) hDK
      · simp at hbad
      · have I7' := I7.out
        rw [hst] at I7'
        have c3 := I3.out.cell 0
        have c5 := I5.out.cell 0
        have c7 := I7'.cell 0
        have f4 := I4.out.frozen 0
        have d4 := I4.out.cell 0
        have hDK2 := Lib.hid ((KeepsOthers.setCell U ⟨w.heap.size + 1 + 1, 0, none⟩ (.bool true)).same D _ hDK rfl)
        have HJ4 := Lib.hid ((I4.out.set_ 0 (.bool true)).record (o' := .deferred none) hDK2.out rfl)
        have c4 := HJ4.out.cell 0
        have HBE := Lib.hid ((IB.out.setCell (p := ⟨w.heap.size + 1 + 1, 0, none⟩) (by simp; omega) (.bool true)).trans (below_putObj w.heap.size (U.setCell ⟨w.heap.size + 1 + 1, 0, none⟩ (.bool true)) D (.deferred none) (by omega)))
        clear I7 I7' hDK hst
        dsimp only
        gi_wp2
        refine ⟨by simp, .inl ⟨_, _, rfl, run_takeDeferred hDK2.out, ?_⟩⟩
        exact ⟨.bool true, by simp [results, Try.results6, go_sem, c4], rfl, HBE.out⟩
end Go.Proofs.Ytdaajncfhcpecaa
