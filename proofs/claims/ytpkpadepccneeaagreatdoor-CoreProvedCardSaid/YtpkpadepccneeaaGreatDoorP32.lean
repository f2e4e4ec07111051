/- The walk of chapter 8's Cells, the program's. No condition. -/
import Derived.Test.YtpkpadepccneeaaGreatDoorP17
import Derived.Test.YtpkpadepccneeaaGreatDoorP31
namespace Go.Proofs.YtpkpadepccneeaaGreatDoor.W
set_option maxRecDepth 100000
set_option linter.unusedVariables false
set_option linter.unusedSimpArgs false
open Go Go.RowKit Go.Shelf
attribute [local go_sem] Oper.semAt_some
theorem OI.keptW {k : IntKind} {e : TypeId} {w w1 : World} {B : Nat} {v : Value} {l : List Int} {row : Option Nat} (h : OI k e w B v l) (hg : w.grownBy w1 row) (hne : ∀ g, v.ownBlock = some g → row ≠ some g) : OI k e w1 B v l :=
  World.ownsRow.kept h hg (by
    cases hv : v.ownBlock with
    | none => exact .inl rfl
    | some g => exact .inr (fun e => hne g hv e.symm))
/-- An own row's block is cells. -/
theorem OI.cells {k : IntKind} {e : TypeId} {w : World} {B : Nat} {v : Value} {l : List Int} (h : OI k e w B v l) (g : Nat) (o : Obj) (hv : v.ownBlock = some g) (ho : w.heap[g]? = some o) : o.isCells = true := by
  rcases h.2 with ⟨rfl, _⟩ | ⟨g', cap, cur, rfl, _, hgg, _⟩
  · simp [Value.ownBlock] at hv
  · have : g' = g := by simpa [Value.ownBlock] using hv
    subst this
    rw [hgg] at ho
    cases ho
    rfl
theorem OI.turned {k : IntKind} {e : TypeId} {w w1 : World} {B B0 G : Nat} {v : Value} {l : List Int} {row : Option Nat} (h : OI k e w B v l) (hg : w.grownBy w1 row) (hr : Turns B0 G w row) (hG : G < B) : OI k e w1 B v l :=
  h.kept hg fun g hv e => by
    have hb := h.lt g hv
    rcases hr g e with h' | ⟨_, o, ho, hc⟩
    · omega
    · rw [h.cells g o hv ho] at hc; cases hc
/-- 'append(out, x)' as a run, its value written out. -/
theorem append_run2 (W : World) (B : Nat) (v : Value) (l : List Int) (y : Int) (hown : OI .i64 3 W B v l) (hlen : l.length + 1 ≤ 8192) (hB : B ≤ W.heap.size) :
    ∃ g cap W', (Builtin.append_ #[27, 27] 27 #[v, .slice (some ⟨W.heap.size, 0, none⟩) 1 1]).run Tryz.prog (W.alloc (.cells #[.int .i64 y] 3)) = .ok (.slice (some ⟨g, 0, none⟩) (l.length + 1) cap) W' ∧
      OI .i64 3 W' B (.slice (some ⟨g, 0, none⟩) (l.length + 1) cap) (l ++ [y]) ∧ Below B W W' ∧ KeepsOthers W W' := by
  obtain ⟨i0, h1, h2, h3, h4⟩ := info_parts info3
  obtain ⟨g, cap, W', hr, ho, hg, _, _⟩ := run_append_lies (P := Tryz.prog) (W.alloc (.cells #[.int .i64 y] 3)) 27 27 B 3 i0 (.int .i64 0) 1 8 under22 h1 h2 h3 h4 rfl (by decide) v l.length (ints .i64 l) (OI.alloc hown _)
    ⟨W.heap.size, 0, none⟩ 1 1 [.int .i64 y] rfl (cell_one_new _ _ _) (by intro u hu; simp at hu; subst hu; rfl) (by decide) (by unfold maxLen; omega) (by omega) (by simp; omega) _ rfl
  refine ⟨_, _, W', hr, ?_, ?_, ?_⟩
  · unfold OI; simpa [ints] using ho
  · exact ((Below.refl _ _).alloc hB _).grown hg (by simp; omega) (fun g hg' => (hown.lt g hg').1)
  · exact (KeepsOthers.alloc _ _).trans (KeepsOthers.of_grownBy hg fun j o hj ho => (OI.alloc hown _).cells j o hj ho)
attribute [-go_sem] Go.Builtin.append_
set_option maxHeartbeats 4000000 in
theorem Cells_any (o : Int) (A B : Option Addr) (cp cq : Nat) (l s : List Int) (w : World) (hr : RI .i64 w A l) (hs : RI .i64 w B s) (hm : l.length ≤ 9223372036854775807) (hms : s.length ≤ 9223372036854775807) :
    Calls Tryz.prog 38 #[.agg (view o A l.length cp B s.length cq)] w fun e w' => ∃ v, e = .returned v ∧ OI .i64 3 w' w.heap.size v (V.cells o l s) ∧ Below w.heap.size w w' := by
  have HB0 := Lib.hid ((Below.refl w.heap.size w).alloc (Nat.le_refl _) (.cells (view o A l.length cp B s.length cq) 41))
  have HK0 := Lib.hid (Blk.new w 41 (view o A l.length cp B s.length cq))
  have hr' := Lib.hid hr
  have hs' := Lib.hid hs
  have CH := Lib.hid (Check_any o A B cp cq l s 4096 _ (hr.below HB0.out) (hs.below HB0.out) hm hms)
  have HC := Lib.hid (show V.cells o l s = if V.check o l s 4096 = 0 then (List.range (sizeN l)).map (V.cellOf o l s) else [] from rfl)
  have HZ := Lib.hid (V.check_zero (o := o) (l := l) (s := s) (c := 4096))
  generalize V.cells o l s = R at *
  generalize V.check o l s 4096 = q at *
  clear hr hs
  refine (callsIn_wide (n := 9)).1 ?_
  refine callsIn_of_wp_marks Tryz.func38 rfl trivial ?_ rfl
  simp only [Tryz.ntmps38, List.size_toArray, List.length_cons, List.length_nil, Nat.reduceAdd, Nat.reduceSub, Array.replicate_succ, Array.replicate_zero, List.push_toArray, List.append_toArray, List.nil_append, List.cons_append]
  by_cases hq : q = 0
  · have HRL := Lib.hid (HC.out.trans (if_pos hq))
    obtain ⟨h1, hok, _, _, hin, _, hnear⟩ := HZ.out hq
    subst hq
    have HL := Lib.hid h1
    have HNR := Lib.hid hnear
    have hN := sizeN_ok hok
    have h4 := hok.1
    have h4s : s.length ≤ 4 := by omega
    have hp := hok.2.2
    rw [← hN] at hp
    have HCF := Lib.hid (show ∀ x, V.cellOf o l s x = V.cellR o s (S.pad (S.atL l x)) s.length from fun x => rfl)
    have HCS := Lib.hid fun (x : Nat) => V.cell_same o l s (S.pad (S.atL l x)) 4096 (by omega) hnear (fun k => (V.pad_small_any hok x k).1) (fun k _ h => (V.pad_small_any hok x k).2.2 h) s.length (Nat.le_refl _)
    have HSM := Lib.hid fun (x : Nat) => V.pad_small_any hok x
    clear HC HZ h1 hin hN hok hnear
    gi_wp2
    refine ⟨trivial, ?_⟩
    refine (callsIn_wide.2 CH.out).mono ?_
    rintro e w1 ⟨rfl, hb1⟩
    have HB1 := Lib.hid (below_then HB0.out HB0.out.size hb1)
    have HK1 := Lib.hid (HK0.out.below hb1 HK0.out.lt)
    clear hb1 CH
    have Z3 := Blk.new w1 27 #[.slice none 0 0]
    have ZX := Blk.new (w1.alloc (.cells #[.slice none 0 0] 27)) 27 #[.slice A l.length cp]
    rw [World.size_alloc] at ZX
    have HS2 := Lib.hid HK1.out.lt
    have V1 := Lib.hid ((HK1.out.alloc (.cells #[.slice none 0 0] 27)).alloc (.cells #[.slice A l.length cp] 27))
    have V3 := Lib.hid (Z3.alloc (.cells #[.slice A l.length cp] 27))
    have VX := Lib.hid ZX
    have VB := Lib.hid (show Below w.heap.size w ((w1.alloc (.cells #[.slice none 0 0] 27)).alloc (.cells #[.slice A l.length cp] 27)) from by
      have hsz := HB1.out.size
      exact (((HB1.out).alloc hsz _).alloc (by simp; omega) _))
    have VS := Lib.hid (show ((w1.alloc (.cells #[.slice none 0 0] 27)).alloc (.cells #[.slice A l.length cp] 27)).heap.size = w1.heap.size + 2 by simp)
    clear Z3 ZX
    have e11 := (HK1.out.alloc (.cells #[.slice none 0 0] 27)).cell 1
    gi_wp2
    refine ⟨trivial, ?_⟩
    refine (callsIn_wide.2 (All_any _ _ _ _)).mono ?_
    rintro e w' ⟨rfl, rfl⟩
    gi_wp2
    have HS1 := Lib.hid HB1.out.size
    clear e11 HB1 HK1 HB0 HK0
    generalize ((w1.alloc (.cells #[.slice none 0 0] 27)).alloc (.cells #[.slice A l.length cp] 27)) = VW at *
    have hVS := VS.out
    have hS2 := HS2.out
    generalize w1.heap.size = s1 at *
    generalize V.cellOf o l s = f at *
    refine RangeC.range_law (n := 9) (gf := 134) (lb := #[.pointer (some ⟨s1 + 1, 0, none⟩)]) rfl (by omega) rfl trivial (enters_of Tryz.func134 (by kernel_rfl) rfl)
      (All1_stops 8 (by omega) (s1 + 1) A cp l w VW hr'.out hm VB.out VX.out) Keep.trans
      (fun W o o' h => keep_putObj _ _ _ _ _ _ (by omega) (by omega) (by omega)) (Below.refl _ _) (fun _ => rfl)
      (fun pre W => Hid (Blk W w.heap.size 41 (view o A l.length cp B s.length cq)) ∧ (∃ A' c', Hid (Blk W s1 27 #[.slice A' pre.length c']) ∧ Hid (OI .i64 3 W (s1 + 5) (.slice A' pre.length c') (pre.map f))) ∧ Hid (Below w.heap.size w W))
      (fun c pre W => False)
      (fun pre X Y row hs hg hr => ⟨Lib.hid (hs.1.out.kept hg hr (by omega) (by omega)), (by
        obtain ⟨A', c', h1, h2⟩ := hs.2.1
        exact ⟨A', c', Lib.hid (h1.out.kept hg hr (by omega) (by omega)), Lib.hid (h2.out.turned hg hr (by omega))⟩), Lib.hid (below_kept hs.2.2.out (Nat.le_refl _) hg hr (by omega) (by omega))⟩)
      (fun c pre X Y row hs hg hr => hs)
      ⟨V1, ⟨none, 0, V3, Lib.hid (OI.nil _ _ _ _)⟩, VB⟩
      (fun x a' W => ∃ g, s1 + 2 ≤ g ∧ Blk W g 170 (idx l x) ∧ a' = { tmps := #[.agg (view o A l.length cp B s.length cq), .pointer (some ⟨w.heap.size, 0, none⟩), .slice none 0 0, .pointer (some ⟨s1, 0, none⟩), undef, .pointer (some ⟨g, 0, none⟩), .agg (view o A l.length cp B s.length cq), .int .i64 0, .bool false, .pointer (some ⟨w.heap.size, 1, none⟩), .slice A l.length cp, .func (.func 134) #[] #[.pointer (some ⟨s1 + 1, 0, none⟩)], .int .i64 x, .agg (idx l x), undef, undef, undef, undef, undef, undef, undef], defers := [] })
      (fun x a' W o o' h ho ⟨g, h1, h2, h3⟩ => ⟨g, h1, h2.record h ho, h3⟩)
      ?assign ?body ?done ?stop
    case assign =>
      intro L pre x W K hi ho hK
      obtain ⟨a, b, c, d, hx⟩ : ∃ a b c d, idx l x = four a b c d := ⟨_, _, _, _, rfl⟩
      rw [hx] at hK ⊢
      have hW : s1 + 2 + 1 < W.heap.size := by
        obtain ⟨o, ho⟩ := ho
        have := (Array.getElem?_eq_some_iff.1 ho).1
        omega
      have HK := Lib.hid hK
      have HI := Lib.hid hi
      clear hK hi ho
      gi_wp2
      obtain ⟨I1, ⟨A', c', I3, IO⟩, IB⟩ := HI.out
      exact HK.out _ _ ((KeepsOthers.alloc _ _).from _) (Keep.alloc _ _ _ _ (by omega) _)
        ⟨Lib.hid (I1.out.alloc _), ⟨A', c', Lib.hid (I3.out.alloc _), Lib.hid (IO.out.alloc _)⟩, Lib.hid (IB.out.alloc IB.out.size _)⟩
        ⟨W.heap.size, by omega, Blk.new _ _ _, rfl⟩
    case body =>
      rintro L pre x a' W ⟨o', ho⟩ ⟨I1, ⟨A', c0, I3, IO⟩, IB⟩ ⟨g, hg, hGB, rfl⟩ hlen hGW
      obtain ⟨a, b, c', d, hx⟩ := list_four (S.pad_length (x := S.atL l x) (by rw [S.atL_length]; exact h4))
      have hi : idx l x = four a b c' d := by unfold idx; rw [hx]; rfl
      rw [hi] at hGB ⊢
      have hsm := HSM.out x
      rw [hx] at hsm
      have CC := cell_any o A B cp cq l s 4096 a b c' d W.drew ((hs'.out.below IB.out).drewN 1) h4s (by omega) (by omega) HNR.out (fun k => ⟨(hsm k).1, (hsm k).2.1⟩) (fun k _ h => (hsm k).2.2 h)
      have hcs := HCS.out x
      rw [hx] at hcs
      have hcf := HCF.out x
      rw [hx] at hcf
      rw [hcs, ← hcf] at CC
      have CC := Lib.hid CC
      clear hcs hcf hsm hx
      have c10 := I1.out.cell 0
      have c11 := I1.out.cell 1
      have c12 := I1.out.cell 2
      have c3 := I3.out.cell 0
      have f3 := I3.out.frozen 0
      have g0 := hGB.cell 0
      have g1 := hGB.cell 1
      have g2 := hGB.cell 2
      have g3 := hGB.cell 3
      have HGB := Lib.hid hGB
      have hpl : (pre.map f).length = pre.length := by simp
      clear hi hGB ho
      generalize hpf : pre.map f = ys at *
      have HPF := Lib.hid hpf
      have HPL := Lib.hid hpl
      clear hpf hpl
      generalize hfx : f x = y at *
      have HFX := Lib.hid hfx
      clear hfx
      gi_wp2
      gi_region_with (refine ⟨trivial, ?_⟩; gi_at_call 79; refine (CallsIn.inRound L (callsIn_wide.2 CC.out)).mono ?_; rintro e U2 ⟨rfl, hbu⟩; (have HBU := Lib.hid (show Below W.heap.size W U2 from ⟨hbu.os, hbu.tape, hbu.output, hbu.size, hbu.block⟩)); (have J3 := Lib.hid (I3.out.below HBU.out I3.out.lt)); have q3 := J3.out.cell 0; (have q4 := (J3.out.alloc (.cells #[.int .i64 y] 3)).cell 0); (have hs1U := J3.out.lt); (obtain ⟨ga, cap, W', hrun, hoi, hbe, hko⟩ := append_run2 U2 (s1 + 5) (.slice A' pre.length c0) ys y (IO.out.below HBU.out) (by have := HPL.out; omega) (by have := HBU.out.size; omega)); rw [HPL.out] at hrun hoi; have HOI := Lib.hid hoi; have HBE := Lib.hid hbe; have HKO := Lib.hid hko; (have K3 := Lib.hid (J3.out.below hbe (by omega))); have k3 := K3.out.cell 0; have kf := K3.out.frozen 0; clear hbu hoi hbe hko)
      all_goals gi_wp2
      all_goals
        have hlen2 : (pre ++ [x]).length = pre.length + 1 := by simp
        refine ⟨(keepsFrom_of_all HBU.out).trans ((HKO.out.trans (KeepsOthers.setCell _ _ _)).from _), ?_, ?_, ?_, ?_⟩
        · exact Keep.trans (keep_of_all HBU.out IB.out.size) (Keep.trans (keep_of_below HBE.out (by omega) (by omega) (by omega)) (Keep.of_grown (show w.heap.size ≤ s1 by omega) (show s1 + 1 ≠ s1 by omega) (show VW.heap.size + 2 ≠ s1 by omega) _))
        · exact Lib.hid (((I1.out.below HBU.out I1.out.lt).below HBE.out (by omega)).far (show w.heap.size ≠ s1 by omega) _)
        · refine ⟨some ⟨ga, 0, none⟩, cap, Lib.hid ?_, Lib.hid ?_⟩
          · rw [hlen2]
            exact K3.out.set_ 0 (.slice (some ⟨ga, 0, none⟩) (pre.length + 1) cap)
          · rw [hlen2, List.map_append, HPF.out, show List.map f [x] = [y] from by rw [← HFX.out]; rfl]
            exact HOI.out.kept (row := some s1) ⟨rfl, rfl, rfl, by simp, fun k _ hk => Below.heap_setCell _ _ _ _ (fun e => hk (by rw [e]))⟩ (fun g' hv e => by have := (HOI.out.lt g' hv).1; cases e; omega)
        · exact Lib.hid (((IB.out.trans (HBU.out.mono IB.out.size)).trans (HBE.out.mono (by omega))).setCell (p := ⟨s1, 0, none⟩) (show w.heap.size ≤ s1 by omega) _)
    case done =>
      rintro D xs U hD rfl ⟨I1, ⟨A', c', I3, IO⟩, IB⟩ hDK
      have c3 := I3.out.cell 0
      have hDK2 := Lib.hid hDK
      have HOE := Lib.hid (IO.out.turned (B0 := VW.heap.size) (G := s1 + 4) (grownBy_putObj' U D (.deferred none)) (fun r e => by cases e; exact .inr ⟨hD, _, hDK, rfl⟩) (by omega))
      have HBE := Lib.hid (IB.out.trans (below_putObj w.heap.size U D (.deferred none) (by omega)))
      clear hDK
      dsimp only
      gi_wp2
      refine ⟨by simp, .inl ⟨_, _, rfl, run_takeDeferred hDK2.out, ?_⟩⟩
      refine ⟨.slice A' (List.range (sizeN l)).length c', by simp [results, Tryz.results38, go_sem], _, rfl, ?_, HBE.out⟩
      rw [HRL.out]
      exact HOE.out.mono (by omega)
    case stop =>
      rintro D c pre U hD _ h hDK
      exact h.elim
  · have HRL := Lib.hid (HC.out.trans (if_neg hq))
    have hq1 : (q != 0) = true := by simp [hq]
    have hq2 : (q == 0) = false := by simp [hq]
    clear HC HZ hq
    gi_wp2
    refine ⟨trivial, ?_⟩
    refine (callsIn_wide.2 CH.out).mono ?_
    rintro e w1 ⟨rfl, hb1⟩
    have HB1 := Lib.hid (below_then HB0.out HB0.out.size hb1)
    clear hb1
    gi_wp2
    exact ⟨.slice none 0 0, (by simp [results, Tryz.results38, go_sem]), _, rfl, by rw [HRL.out]; exact OI.nil _ _ _ _, HB1.out⟩
end Go.Proofs.YtpkpadepccneeaaGreatDoor.W
