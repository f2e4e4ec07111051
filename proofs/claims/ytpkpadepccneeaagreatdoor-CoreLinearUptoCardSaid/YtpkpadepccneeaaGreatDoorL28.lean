/- The walks of session.run, do and Do at the three things that the top's alive does. No condition. -/
import Derived.Test.YtpkpadepccneeaaGreatDoorL27
import Derived.StillTailTactics
import Derived.Deep.RegionHeld3
namespace Go.Proofs.YtpkpadepccneeaaGreatDoor
set_option linter.unusedVariables false
set_option linter.unusedSimpArgs false
open Go Go.RowKit Go.Shelf Go.Maps
/-- Something that is done: its kind, a prime, a list, a view's shape and strides, axes, a way. -/
abbrev opA (k p : Int) (l a b x : Value) (way : Int) : Array Value := #[.int .i64 k, .int .i64 0, .int .i64 0, .int .u64 p, l, .int .i64 0, .int .i64 0, a, b, .int .i64 0, .int .i64 0, .slice none 0 0, .slice none 0 0, .int .i64 0, .int .i64 0, .slice none 0 0, .slice none 0 0, x, .int .i64 way, .bool false]
set_option maxRecDepth 100000 in
set_option maxHeartbeats 4000000 in
theorem run_4 (gs c m n gf lo hi gx gb cb Bb : Nat) (adA adB : Addr) (ca cv cx : Nat) (bs : List Nat) (w : World) (hsb : Blk w gs 142 (sessCs (.pointer (some ⟨gf, 0, none⟩)) (.slice (some ⟨gb, 0, none⟩) 4 cb) c)) (hf : FB lo hi w gf 5 2) (hr : RI .i64 w (some adA) [4]) (hs : RI .i64 w (some adB) [1]) (hx : w.cell? ⟨gx, 0, none⟩ = some (.int .i64 0))
    (ho : OL w Bb gb cb bs) (hl : bs.length = 4) (hb : ∀ j, j < 4 → bs.getD j 0 < 5)
    (hc : Blk w c 112 (cacheCs 1 (.slice none 0 0) m 0 0)) (hm : KM w m n (.map [])) (hn : n < 1000) (hcm : c ≠ m) (hlc : c < lo ∨ hi ≤ c) (hlm : m < lo ∨ hi ≤ m) (hhi : hi ≤ w.heap.size)
    (hA : adA.block ≠ c ∧ adA.block ≠ m ∧ adA.block ≠ gb) (hB : adB.block ≠ c ∧ adB.block ≠ m ∧ adB.block ≠ gb) (hX : gx ≠ c ∧ gx ≠ m ∧ gx ≠ gb) (hG : gb ≠ c ∧ gb ≠ m) (hlo : gb < lo ∨ hi ≤ gb) (hgb : gb < w.heap.size) :
    Calls Tryz.prog 108 #[.pointer (some ⟨gs, 0, none⟩), .pointer (some ⟨gf, 0, none⟩), .agg (opA 5 0 (.slice none 0 0) (.slice (some adA) 1 ca) (.slice (some adB) 1 cv) (.slice (some ⟨gx, 0, none⟩) 1 cx) (-1))] w fun e w' =>
      e = .returned (.int .i64 0) ∧ OL w' Bb gb cb (done4 bs) ∧ (∃ A cap, Blk w' c 112 (cacheCs 1 (.slice A 1 cap) m 0 1)) ∧ Fr (fun i => i = c ∨ i = m ∨ i = gb) w w' := by
  have HB0 := Lib.hid ((Below.refl w.heap.size w).alloc (Nat.le_refl _) (.cells (opA 5 0 (.slice none 0 0) (.slice (some adA) 1 ca) (.slice (some adB) 1 cv) (.slice (some ⟨gx, 0, none⟩) 1 cx) (-1)) 86))
  have K0 := Lib.hid (Blk.new w 86 (opA 5 0 (.slice none 0 0) (.slice (some adA) 1 ca) (.slice (some adB) 1 cv) (.slice (some ⟨gx, 0, none⟩) 1 cx) (-1)))
  have HBD := Lib.hid HB0.out.drew
  have CH := Lib.hid (has_0 gs (.pointer (some ⟨gf, 0, none⟩)) gb cb c _ (hsb.alloc (.cells (opA 5 0 (.slice none 0 0) (.slice (some adA) 1 ca) (.slice (some adB) 1 cv) (.slice (some ⟨gx, 0, none⟩) 1 cx) (-1)) 86)))
  have AX := Lib.hid (axRun_4 c m n gf lo hi gx gb cb Bb adA adB ca cv cx bs (w.alloc (.cells (opA 5 0 (.slice none 0 0) (.slice (some adA) 1 ca) (.slice (some adB) 1 cv) (.slice (some ⟨gx, 0, none⟩) 1 cx) (-1)) 86)).drew (hf.below HBD.out) (hr.below HBD.out) (hs.below HBD.out) (bcell HBD.out hx) (OI.below ho HBD.out) hl hb
    (hc.below HBD.out hc.lt) (World.ownsMap.alloc hm _) hn hcm hlc hlm (Nat.le_trans hhi HBD.out.size) hA hB hX hG hlo (Nat.lt_of_lt_of_le hgb HBD.out.size))
  have KS := Lib.hid (hsb.alloc (.cells (opA 5 0 (.slice none 0 0) (.slice (some adA) 1 ca) (.slice (some adB) 1 cv) (.slice (some ⟨gx, 0, none⟩) 1 cx) (-1)) 86))
  clear hsb hf hr hs hx ho hb hc hm
  go_enter Tryz.func108, Tryz.ntmps108
  go_wp2_with fail
  generalize w.alloc (.cells (opA 5 0 (.slice none 0 0) (.slice (some adA) 1 ca) (.slice (some adB) 1 cv) (.slice (some ⟨gx, 0, none⟩) 1 cx) (-1)) 86) = W at *
  have s4 : W.cell? ⟨gs, 4, none⟩ = some (.slice (some ⟨gb, 0, none⟩) 4 cb) := KS.out.cell 4
  have s10 : W.cell? ⟨gs, 10, none⟩ = some (.pointer (some ⟨c, 0, none⟩)) := KS.out.cell 10
  have d5 : W.cell? ⟨w.heap.size, 5, none⟩ = some (.int .i64 0) := K0.out.cell 5
  have d6 : W.cell? ⟨w.heap.size, 6, none⟩ = some (.int .i64 0) := K0.out.cell 6
  have d7 : W.cell? ⟨w.heap.size, 7, none⟩ = some (.slice (some adA) 1 ca) := K0.out.cell 7
  have d8 : W.cell? ⟨w.heap.size, 8, none⟩ = some (.slice (some adB) 1 cv) := K0.out.cell 8
  have d17 : W.cell? ⟨w.heap.size, 17, none⟩ = some (.slice (some ⟨gx, 0, none⟩) 1 cx) := K0.out.cell 17
  have d18 : W.cell? ⟨w.heap.size, 18, none⟩ = some (.int .i64 (-1)) := K0.out.cell 18
  have d19 : W.cell? ⟨w.heap.size, 19, none⟩ = some (.bool false) := K0.out.cell 19
  with_reducible refine CH.out.mono ?_
  rintro e w1 ⟨rfl, rfl⟩
  go_wp2_with fail
  go_still_tail 23, (by kernel_rfl)
  change wpList _ _ _ _ _ W.drew
  go_wp2_with fail
  refine AX.out.mono ?_
  rintro e w2 ⟨rfl, ho2, hc2, hf2⟩
  have HO := Lib.hid ho2
  have HC := Lib.hid hc2
  have HF := Lib.hid ((Fr.of_below (fun i => i = c ∨ i = m ∨ i = gb) HBD.out).trans hf2)
  clear ho2 hc2 hf2
  go_wp2_with fail
  go_ret
  exact ⟨rfl, HO.out, HC.out, HF.out⟩
set_option maxRecDepth 100000 in
set_option maxHeartbeats 4000000 in
theorem do_small (gs : Nat) (f0 b0 : Value) (c : Nat) (w : World) (hsb : Blk w gs 142 (sessCs f0 b0 c)) :
    Calls Tryz.prog 58 #[.pointer (some ⟨gs, 0, none⟩), .agg (opA 0 5 (.slice none 0 0) (.slice none 0 0) (.slice none 0 0) (.slice none 0 0) 0)] w fun e w' => ∃ gf hi, e = .returned (.int .i64 0) ∧ FB w.heap.size hi w' gf 5 2 ∧ hi ≤ w'.heap.size ∧ Blk w' gs 142 (sessCs (.pointer (some ⟨gf, 0, none⟩)) b0 c) ∧ Fr (fun i => i = gs) w w' := by
  have HB0 := Lib.hid ((Below.refl w.heap.size w).alloc (Nat.le_refl _) (.cells (opA 0 5 (.slice none 0 0) (.slice none 0 0) (.slice none 0 0) (.slice none 0 0) 0) 86))
  have K0 := Lib.hid (Blk.new w 86 (opA 0 5 (.slice none 0 0) (.slice none 0 0) (.slice none 0 0) (.slice none 0 0) 0))
  have KS := Lib.hid (hsb.alloc (.cells (opA 0 5 (.slice none 0 0) (.slice none 0 0) (.slice none 0 0) (.slice none 0 0) 0) 86))
  have hlt := hsb.lt
  clear hsb
  go_enter Tryz.func58, Tryz.ntmps58
  go_wp2_with fail
  have e3 : (w.alloc (.cells (opA 0 5 (.slice none 0 0) (.slice none 0 0) (.slice none 0 0) (.slice none 0 0) 0) 86)).cell? ⟨w.heap.size, 3, none⟩ = some (.int .u64 5) := K0.out.cell 3
  refine (Small_5 _).mono ?_
  rintro e w1 ⟨gf, rfl, hf1, hb1⟩
  have HF := Lib.hid hf1
  have HB1 := Lib.hid (below_then HB0.out HB0.out.size hb1)
  have K1 := Lib.hid (K0.out.below hb1 K0.out.lt)
  have KS1 := Lib.hid (KS.out.below hb1 KS.out.lt)
  have hs1 : (w.alloc (.cells (opA 0 5 (.slice none 0 0) (.slice none 0 0) (.slice none 0 0) (.slice none 0 0) 0) 86)).heap.size = w.heap.size + 1 := by simp
  rw [hs1] at HF
  have d1 : w1.cell? ⟨w.heap.size, 1, none⟩ = some (.int .i64 0) := K1.out.cell 1
  have CP := Lib.hid (put_0 gs f0 b0 c gf w1 KS1.out)
  clear hf1 hb1 e3
  go_wp2_with fail
  refine CP.out.mono ?_
  rintro e w2 ⟨rfl, rfl⟩
  have HK := Lib.hid (show Blk (w1.setCell ⟨gs, 0, none⟩ (.pointer (some ⟨gf, 0, none⟩))) gs 142 (sessCs (.pointer (some ⟨gf, 0, none⟩)) b0 c) from KS1.out.set_ 0 (.pointer (some ⟨gf, 0, none⟩)))
  have HFR := Lib.hid (Fr.setCell (S := fun i => i = gs) (p := ⟨gs, 0, none⟩) rfl w1 (.pointer (some ⟨gf, 0, none⟩)))
  have HFF := Lib.hid (HF.out.fr HFR.out (fun i h1 h2 e => by omega))
  go_wp2_with fail
  go_ret
  have hfin : FB w.heap.size w1.heap.size (w1.setCell ⟨gs, 0, none⟩ (.pointer (some ⟨gf, 0, none⟩))) gf 5 2 := by
    have h := HFF.out
    obtain ⟨gc, h1, h2, h3⟩ := h.mc
    exact ⟨by have := h.above; omega, h.under, ⟨gc, by omega, h2, h3⟩, h.cp, h.cg⟩
  exact ⟨gf, w1.heap.size, rfl, hfin, HFR.out.size, HK.out, (Fr.of_below _ HB1.out).trans HFR.out⟩
set_option maxRecDepth 100000 in
set_option maxHeartbeats 4000000 in
theorem do_buffer (gs : Nat) (f0 b0 : Value) (c : Nat) (ad : Addr) (cp : Nat) (l : List Int) (w : World) (hsb : Blk w gs 142 (sessCs f0 b0 c)) (hr : RI .u64 w (some ad) l) (hl : l.length = 4) :
    Calls Tryz.prog 58 #[.pointer (some ⟨gs, 0, none⟩), .agg (opA 2 0 (.slice (some ad) 4 cp) (.slice none 0 0) (.slice none 0 0) (.slice none 0 0) 0)] w fun e w' => ∃ gb cb, e = .returned (.int .i64 0) ∧ OI .u64 22 w' w.heap.size (.slice (some ⟨gb, 0, none⟩) 4 cb) l ∧ Blk w' gs 142 (sessCs f0 (.slice (some ⟨gb, 0, none⟩) 4 cb) c) ∧ Fr (fun i => i = gs) w w' := by
  have HB0 := Lib.hid ((Below.refl w.heap.size w).alloc (Nat.le_refl _) (.cells (opA 2 0 (.slice (some ad) 4 cp) (.slice none 0 0) (.slice none 0 0) (.slice none 0 0) 0) 86))
  have K0 := Lib.hid (Blk.new w 86 (opA 2 0 (.slice (some ad) 4 cp) (.slice none 0 0) (.slice none 0 0) (.slice none 0 0) 0))
  have CL := Lib.hid (lay_0 gs f0 b0 c ad cp l (w.alloc (.cells (opA 2 0 (.slice (some ad) 4 cp) (.slice none 0 0) (.slice none 0 0) (.slice none 0 0) 0) 86)) (hsb.alloc _) (hr.below HB0.out) hl)
  clear hsb hr hl
  go_enter Tryz.func58, Tryz.ntmps58
  go_upto_region 9 with fail
  have e4 : (w.alloc (.cells (opA 2 0 (.slice (some ad) 4 cp) (.slice none 0 0) (.slice none 0 0) (.slice none 0 0) 0) 86)).cell? ⟨w.heap.size, 4, none⟩ = some (.slice (some ad) 4 cp) := K0.out.cell 4
  have e5 : (w.alloc (.cells (opA 2 0 (.slice (some ad) 4 cp) (.slice none 0 0) (.slice none 0 0) (.slice none 0 0) 0) 86)).cell? ⟨w.heap.size, 5, none⟩ = some (.int .i64 0) := K0.out.cell 5
  go_wp2_with fail
  refine CL.out.mono ?_
  rintro e w2 ⟨gb, cb, rfl, ho2, hk2, hf2⟩
  have HO := Lib.hid ho2
  have HK := Lib.hid hk2
  have HF := Lib.hid ((Fr.of_below (fun i => i = gs) HB0.out).trans hf2)
  clear ho2 hk2 hf2
  go_wp2_with fail
  go_ret
  exact ⟨gb, cb, rfl, HO.out.mono HB0.out.size, HK.out, HF.out⟩
end Go.Proofs.YtpkpadepccneeaaGreatDoor

/- The walks of session.do and Do, with the whole of what is done in hand. No condition. -/
namespace Go.Proofs.YtpkpadepccneeaaGreatDoor
set_option linter.unusedVariables false
set_option linter.unusedSimpArgs false
open Go Go.RowKit Go.Shelf Go.Maps
theorem size86 : (Tryz.prog.info? 86).map (·.size) = some 20 := by kernel_rfl
set_option maxRecDepth 100000 in
set_option maxHeartbeats 4000000 in
theorem Do_of (gs : Nat) (k p : Int) (l a b x : Value) (way : Int) (hk : (k == 3) = false) (w : World) (Q : World → Prop)
    (h : Calls Tryz.prog 58 #[.pointer (some ⟨gs, 0, none⟩), .agg (opA k p l a b x way)] ((w.alloc (.cells (opA k p l a b x way) 86)).alloc (.cells #[.int .i64 0, .slice none 0 0] 82)) fun e w' => e = .returned (.int .i64 0) ∧ Q w' ∧ Blk w' (w.heap.size + 1) 82 #[.int .i64 0, .slice none 0 0]) :
    Calls Tryz.prog 27 #[.pointer (some ⟨gs, 0, none⟩), .agg (opA k p l a b x way)] w fun e w' => e = .returned (.agg #[.int .i64 0, .slice none 0 0]) ∧ ∃ w1, Q w1 ∧ Fr (fun i => i = w.heap.size + 1) w1 w' := by
  have H := Lib.hid h
  have hk' : (k != 3) = true := by rw [bne, hk]; rfl
  have K0 := Lib.hid ((Blk.new w 86 (opA k p l a b x way)).alloc (.cells #[.int .i64 0, .slice none 0 0] 82))
  clear h
  go_enter Tryz.func27, Tryz.ntmps27
  go_upto_region 4 with fail
  go_wp2_with (refine wpList_load_row rfl 86 (.tmp 3) rfl w.heap.size rfl 86 (opA k p l a b x way) (0, 0) _ K0.out Tryz.underlying86 rfl size86 ?_)
  refine H.out.mono ?_
  rintro e w1 ⟨rfl, hq, hb⟩
  have c0 := hb.cell 0
  have c1 := hb.cell 1
  have f0 := hb.frozen 0
  have f1 := hb.frozen 1
  have HQ := Lib.hid hq
  have HK := Lib.hid (show Blk ((w1.setCell ⟨w.heap.size + 1, 0, none⟩ (.int .i64 0)).setCell ⟨w.heap.size + 1, 1, none⟩ (.slice none 0 0)) (w.heap.size + 1) 82 #[.int .i64 0, .slice none 0 0] from (hb.set_ 0 (.int .i64 0)).set_ 1 (.slice none 0 0))
  have HF := Lib.hid ((Fr.setCell (S := fun i => i = w.heap.size + 1) (p := ⟨w.heap.size + 1, 0, none⟩) rfl w1 (.int .i64 0)).trans (Fr.setCell (S := fun i => i = w.heap.size + 1) (p := ⟨w.heap.size + 1, 1, none⟩) rfl _ (.slice none 0 0)))
  clear hq hb
  go_wp2_with fail
  have q0 := HK.out.cell 0
  have q1 := HK.out.cell 1
  exact bodyPost_ret (v := .agg #[.int .i64 0, .slice none 0 0]) (by simp [results, Tryz.results27, go_sem, q0, q1]) rfl ⟨rfl, w1, HQ.out, HF.out⟩
theorem still_load_row {P : Program} {ops : Array Oper} {w : World} {Q : Act → Prop} {a : Act} {o : Oper} {rest : List Oper} (hgd : o.guard = none) (ty : TypeId) (x : Operand) (ho : o.op = .load ty x)
    (g : Nat) (hx : a.eval x = .pointer (some ⟨g, 0, none⟩)) (t : TypeId) (cs : Array Value) (fr : Nat × Nat) (d : TypeDesc) (hg : w.heap[g]? = some (.cells cs t fr))
    (hu : P.underlying ty = some d) (hd : (match d with | .struct _ | .array _ _ => true | _ => false) = true) (hi : (P.info? ty).map (·.size) = some cs.size)
    (h : wpStill P ops w Q rest (a.put o.dst (.agg cs))) : wpStill P ops w Q (o :: rest) a := by
  have e : (execOp a.eval o).run P w = .ok (.value (.agg cs)) w := by
    unfold execOp
    simp only [ho, hx, Instr.loadAt, Instr.sureAddr, Sem.run_bind, Sem.run_pure, Result.andThen_ok, run_loadVar_row w g t ty cs fr d hg hu hd hi]
  show if Region.wanted o (yielded ops a.tmps) then o.still P a w (wpStill P ops w Q rest) else _
  rw [if_pos (by unfold Region.wanted; rw [hgd])]
  unfold Oper.still
  rw [e, Oper.stillUpon_value]
  exact h
set_option maxRecDepth 100000 in
set_option maxHeartbeats 4000000 in
theorem do_run (gs c m n gf lo hi gx gb cb Bb : Nat) (adA adB : Addr) (ca cv cx : Nat) (bs : List Nat) (w : World) (hsb : Blk w gs 142 (sessCs (.pointer (some ⟨gf, 0, none⟩)) (.slice (some ⟨gb, 0, none⟩) 4 cb) c)) (hf : FB lo hi w gf 5 2) (hr : RI .i64 w (some adA) [4]) (hs : RI .i64 w (some adB) [1]) (hx : w.cell? ⟨gx, 0, none⟩ = some (.int .i64 0))
    (ho : OL w Bb gb cb bs) (hl : bs.length = 4) (hb : ∀ j, j < 4 → bs.getD j 0 < 5)
    (hc : Blk w c 112 (cacheCs 1 (.slice none 0 0) m 0 0)) (hm : KM w m n (.map [])) (hn : n < 1000) (hcm : c ≠ m) (hlc : c < lo ∨ hi ≤ c) (hlm : m < lo ∨ hi ≤ m) (hhi : hi ≤ w.heap.size)
    (hA : adA.block ≠ c ∧ adA.block ≠ m ∧ adA.block ≠ gb) (hB : adB.block ≠ c ∧ adB.block ≠ m ∧ adB.block ≠ gb) (hX : gx ≠ c ∧ gx ≠ m ∧ gx ≠ gb) (hG : gb ≠ c ∧ gb ≠ m) (hlo : gb < lo ∨ hi ≤ gb) (hgb : gb < w.heap.size) :
    Calls Tryz.prog 58 #[.pointer (some ⟨gs, 0, none⟩), .agg (opA 5 0 (.slice none 0 0) (.slice (some adA) 1 ca) (.slice (some adB) 1 cv) (.slice (some ⟨gx, 0, none⟩) 1 cx) (-1))] w fun e w' =>
      e = .returned (.int .i64 0) ∧ OL w' Bb gb cb (done4 bs) ∧ (∃ A cap, Blk w' c 112 (cacheCs 1 (.slice A 1 cap) m 0 1)) ∧ Fr (fun i => i = c ∨ i = m ∨ i = gb) w w' := by
  have HB0 := Lib.hid ((Below.refl w.heap.size w).alloc (Nat.le_refl _) (.cells (opA 5 0 (.slice none 0 0) (.slice (some adA) 1 ca) (.slice (some adB) 1 cv) (.slice (some ⟨gx, 0, none⟩) 1 cx) (-1)) 86))
  have K0 := Lib.hid (Blk.new w 86 (opA 5 0 (.slice none 0 0) (.slice (some adA) 1 ca) (.slice (some adB) 1 cv) (.slice (some ⟨gx, 0, none⟩) 1 cx) (-1)))
  have HBD := Lib.hid HB0.out.drew
  have CF := Lib.hid (W.flipw (field_0 gs (.pointer (some ⟨gf, 0, none⟩)) (.slice (some ⟨gb, 0, none⟩) 4 cb) c (w.alloc (.cells (opA 5 0 (.slice none 0 0) (.slice (some adA) 1 ca) (.slice (some adB) 1 cv) (.slice (some ⟨gx, 0, none⟩) 1 cx) (-1)) 86)).drew (hsb.below HBD.out hsb.lt)))
  have AX := Lib.hid (run_4 gs c m n gf lo hi gx gb cb Bb adA adB ca cv cx bs (w.alloc (.cells (opA 5 0 (.slice none 0 0) (.slice (some adA) 1 ca) (.slice (some adB) 1 cv) (.slice (some ⟨gx, 0, none⟩) 1 cx) (-1)) 86)).drew (hsb.below HBD.out hsb.lt) (hf.below HBD.out) (hr.below HBD.out) (hs.below HBD.out) (bcell HBD.out hx) (OI.below ho HBD.out) hl hb
    (hc.below HBD.out hc.lt) (World.ownsMap.alloc hm _) hn hcm hlc hlm (Nat.le_trans hhi HBD.out.size) hA hB hX hG hlo (Nat.lt_of_lt_of_le hgb HBD.out.size))
  clear hsb hf hr hs hx ho hb hc hm
  go_enter Tryz.func58, Tryz.ntmps58
  go_upto_region 13 with fail
  generalize w.alloc (.cells (opA 5 0 (.slice none 0 0) (.slice (some adA) 1 ca) (.slice (some adB) 1 cv) (.slice (some ⟨gx, 0, none⟩) 1 cx) (-1)) 86) = W at *
  have d1 : W.cell? ⟨w.heap.size, 1, none⟩ = some (.int .i64 0) := K0.out.cell 1
  go_wp2_with fail
  go_still_tail 6, (by kernel_rfl)
  still_call CF.out
  refine still_load_row rfl 86 (.tmp 3) rfl w.heap.size rfl 86 (opA 5 0 (.slice none 0 0) (.slice (some adA) 1 ca) (.slice (some adB) 1 cv) (.slice (some ⟨gx, 0, none⟩) 1 cx) (-1)) (0, 0) _ (show Blk W.drew w.heap.size 86 _ from K0.out) Tryz.underlying86 rfl size86 ?_
  repeat still_step
  refine wpStill_nil ?_
  change wpList _ _ _ _ _ W.drew
  go_wp2_with fail
  refine AX.out.mono ?_
  rintro e w2 ⟨rfl, ho2, hc2, hf2⟩
  have HO := Lib.hid ho2
  have HC := Lib.hid hc2
  have HF := Lib.hid ((Fr.of_below (fun i => i = c ∨ i = m ∨ i = gb) HBD.out).trans hf2)
  clear ho2 hc2 hf2
  go_wp2_with fail
  go_ret
  exact ⟨rfl, HO.out, HC.out, HF.out⟩
end Go.Proofs.YtpkpadepccneeaaGreatDoor

/- The walks of garner: plus nothing, New of three fields, Field, Product, Join of three like rests. No condition. -/
namespace Go.Proofs.YtpkpadepccneeaaGreatDoor
open Go Go.RowKit Go.Shelf
set_option linter.unusedVariables false
set_option linter.unusedSimpArgs false
theorem lo_none (a : Nat) : lo a 0 0 = 0 := by unfold lo; simp
theorem hi_none (a : Nat) : hi a 0 0 = 0 := by unfold hi; simp
theorem Scale_0 (a0 a1 a2 : Nat) (h0 : a0 < Mg.R) (h1 : a1 < Mg.R) (h2 : a2 < Mg.R) (w : World) :
    Calls Tryz.prog 174 #[.agg #[.int .u64 a0, .int .u64 a1, .int .u64 a2], .int .u64 0] w fun e w' => e = .returned (.tuple #[.agg #[.int .u64 0, .int .u64 0, .int .u64 0], .int .u64 0]) ∧ Below w.heap.size w w' := by
  have h := Scale_any a0 a1 a2 0 h0 h1 h2 (by decide) w
  simp only [lo_none, hi_none] at h
  exact h
set_option maxRecDepth 100000 in
set_option maxHeartbeats 1000000 in
theorem plus_0 (x y0 y1 y2 : Nat) (hx : x < Mg.R) (h0 : y0 < Mg.R) (h1 : y1 < Mg.R) (h2 : y2 < Mg.R) (w : World) :
    Calls Tryz.prog 261 #[.agg #[.int .u64 x, .int .u64 0, .int .u64 0], .agg #[.int .u64 y0, .int .u64 y1, .int .u64 y2], .int .u64 0] w fun e w' => e = .returned (.agg #[.int .u64 x, .int .u64 0, .int .u64 0]) ∧ Below w.heap.size w w' := by
  obtain ⟨A1, A2, A3, HB, HS⟩ := blocks3 w #[.int .u64 x, .int .u64 0, .int .u64 0] #[.int .u64 y0, .int .u64 y1, .int .u64 y2] #[.int .u64 0, .int .u64 0, .int .u64 0] 252 252 252
  have B1 := Lib.hid A1
  have B2 := Lib.hid A2
  have B3 := Lib.hid A3
  have BB := Lib.hid HB
  have SC := Lib.hid fun W => Scale_0 y0 y1 y2 h0 h1 h2 W
  have AD := Lib.hid fun W => Add_0 x hx W
  clear A1 A2 A3 HB
  go_enter Tryz.func261, Tryz.ntmps261
  go_wp2_with fail
  generalize ((w.alloc (.cells #[.int .u64 x, .int .u64 0, .int .u64 0] 252)).alloc (.cells #[.int .u64 y0, .int .u64 y1, .int .u64 y2] 252)).alloc (.cells #[.int .u64 0, .int .u64 0, .int .u64 0] 252) = W at *
  with_reducible refine (SC.out _).mono ?_
  rintro e w1 ⟨rfl, hb1⟩
  have C1 := Lib.hid (B1.out.below hb1 B1.out.lt)
  have C3 := Lib.hid (B3.out.below hb1 B3.out.lt)
  have HB1 := Lib.hid (below_then BB.out BB.out.size hb1)
  clear hb1
  have x0 := C1.out.cell 0
  have x1 := C1.out.cell 1
  have x2 := C1.out.cell 2
  have s1 : w.heap.size < w1.heap.size := C1.out.lt
  go_wp2_with fail
  with_reducible refine (AD.out _).mono ?_
  rintro e w2 ⟨rfl, hb2⟩
  have hz := (Below.refl w1.heap.size w1).alloc (Nat.le_refl _) (.cells #[.int .u64 0, .int .u64 0, .int .u64 0] 252)
  have C4 := Lib.hid ((C3.out.below hz C3.out.lt).below hb2 (C3.out.below hz C3.out.lt).lt)
  have hy := (Below.refl w2.heap.size w2).alloc (Nat.le_refl _) (.cells #[.int .u64 x, .int .u64 0, .int .u64 0] 252)
  have C5 := Lib.hid (C4.out.below hy C4.out.lt)
  have HB5 := Lib.hid (below_then (below_then (below_then HB1.out HB1.out.size hz) (Nat.le_trans HB1.out.size hz.size) hb2) (Nat.le_trans (Nat.le_trans HB1.out.size hz.size) hb2.size) hy)
  clear hz hb2 hy x0 x1 x2
  have r0 := C5.out.cell 0
  have r1 := C5.out.cell 1
  have r2 := C5.out.cell 2
  have v0 := C5.out.frozen 0
  have v1 := C5.out.frozen 1
  have v2 := C5.out.frozen 2
  go_wp2_with fail
  obtain ⟨K4, F4⟩ := put3' C5.out (.int .u64 x) (.int .u64 0) (.int .u64 0)
  have q0 := K4.cell 0
  have q1 := K4.cell 1
  have q2 := K4.cell 2
  have HF := (Fr.of_below (fun i => False) HB5.out).or' F4 (U := fun i => w.heap.size ≤ i) (fun i _ h => h.elim) (fun i hi h => by omega)
  exact bodyPost_ret (v := .agg #[.int .u64 x, .int .u64 0, .int .u64 0]) (by simp [results, Tryz.results261, go_sem, q0, q1, q2]) rfl ⟨rfl, HF.to_below (Nat.le_refl _) (fun i hi h => by omega)⟩
/-- A trio's cells. -/
abbrev trioCs (a b c s t m q0 q1 : Nat) : Array Value := #[.pointer (some ⟨a, 0, none⟩), .pointer (some ⟨b, 0, none⟩), .pointer (some ⟨c, 0, none⟩), .int .u64 s, .int .u64 t, .int .u64 m, .int .u64 0, .int .u64 0, .int .u64 q0, .int .u64 q1, .int .u64 0]
theorem lo_zero {k c : Nat} (hc : c < Mg.R) : lo 0 k c = c := by unfold lo; rw [Nat.zero_mul, Nat.zero_add, Nat.mod_eq_of_lt hc]
theorem hi_zero {k c : Nat} (hc : c < Mg.R) : hi 0 k c = 0 := by unfold hi; rw [Nat.zero_mul, Nat.zero_add, Nat.div_eq_of_lt hc]
theorem Scale_1 (a k : Nat) (h0 : a < Mg.R) (hk : k < Mg.R) (w : World) :
    Calls Tryz.prog 174 #[.agg #[.int .u64 a, .int .u64 0, .int .u64 0], .int .u64 k] w fun e w' => e = .returned (.tuple #[.agg #[.int .u64 (lo a k 0 : Nat), .int .u64 (hi a k 0 : Nat), .int .u64 0], .int .u64 0]) ∧ Below w.heap.size w w' := by
  have h := Scale_any a 0 0 k h0 (by decide) (by decide) hk w
  have h1 := hi_lt h0 hk (show 0 < Mg.R by decide)
  rw [lo_zero h1, hi_zero h1, lo_zero (by decide), hi_zero (by decide)] at h
  exact h
theorem lo_small {a k : Nat} (h : a * k < Mg.R) : lo a k 0 = a * k := by unfold lo; rw [Nat.add_zero, Nat.mod_eq_of_lt h]
theorem hi_small {a k : Nat} (h : a * k < Mg.R) : hi a k 0 = 0 := by unfold hi; rw [Nat.add_zero, Nat.div_eq_of_lt h]
theorem trio_put {W : World} {g a b c s t m q0 q1 : Nat} (h : Blk W g 255 #[.pointer (some ⟨a, 0, none⟩), .pointer (some ⟨b, 0, none⟩), .pointer (some ⟨c, 0, none⟩), .int .u64 s, .int .u64 t, .int .u64 m, .int .u64 0, .int .u64 0, .int .u64 0, .int .u64 0, .int .u64 0]) :
    Blk (((W.setCell ⟨g, 8, none⟩ (.int .u64 q0)).setCell ⟨g, 9, none⟩ (.int .u64 q1)).setCell ⟨g, 10, none⟩ (.int .u64 0)) g 255 (trioCs a b c s t m q0 q1) := by
  have h := ((h.set_ 8 (.int .u64 q0)).set_ 9 (.int .u64 q1)).set_ 10 (.int .u64 0)
  simp only [List.setIfInBounds_toArray, List.set_cons_zero, List.set_cons_succ] at h
  exact h
open Classical in
theorem invN_le (a m : Nat) : invN a m ≤ m := by
  unfold invN
  by_cases h : ∃ t, InvOk a m t
  · rw [dif_pos h]; exact Nat.le_of_lt h.choose_spec.1
  · rw [dif_neg h]; exact Nat.zero_le _
set_option maxRecDepth 100000 in
set_option maxHeartbeats 2000000 in
theorem gNew_3 (a b c pa pb pc ga gb gc : Nat) (w : World) (ha : FD w a pa ga) (hb : FD w b pb gb) (hc : FD w c pc gc) (n1 : pa ≠ pb) (n2 : pa ≠ pc) (n3 : pb ≠ pc) (g1 : Nat.gcd pb pa = 1) (g2 : Nat.gcd pc (pa * pb % pc) = 1) (hsm : pa * pb < Mg.R) :
    Calls Tryz.prog 115 #[.pointer (some ⟨a, 0, none⟩), .pointer (some ⟨b, 0, none⟩), .pointer (some ⟨c, 0, none⟩)] w fun e w' => ∃ gt s t, e = .returned (.tuple #[.pointer (some ⟨gt, 0, none⟩), .int .i64 0]) ∧
      Blk w' gt 255 (trioCs a b c s t (pa * pb) (lo (pa * pb) pc 0) (hi (pa * pb) pc 0)) ∧ s < Mg.R ∧ t < Mg.R ∧ Below w.heap.size w w' ∧ w.heap.size ≤ gt := by
  have la := ha.low
  have lb := hb.low
  have lc := hc.low
  have ra : pa < Mg.R := by have := ha.high; simp only [Mg.R]; omega
  have rb : pb < Mg.R := by have := hb.high; simp only [Mg.R]; omega
  have rc : pc < Mg.R := by have := hc.high; simp only [Mg.R]; omega
  have i1 : invN pa pb < Mg.R := Nat.lt_of_le_of_lt (invN_le pa pb) rb
  have i2 : invN (pa * pb % pc) pc < Mg.R := Nat.lt_of_le_of_lt (invN_le _ pc) rc
  have rm : pa * pb % pc < Mg.R := Nat.lt_trans (Nat.mod_lt _ (by omega)) rc
  have PA := Lib.hid fun (W : World) (h : Below w.heap.size w W) => fP_rd a pa ga W (ha.below h)
  have PB := Lib.hid fun (W : World) (h : Below w.heap.size w W) => fP_rd b pb gb W (hb.below h)
  have PC := Lib.hid fun (W : World) (h : Below w.heap.size w W) => fP_rd c pc gc W (hc.below h)
  have IB := Lib.hid fun (W : World) (h : Below w.heap.size w W) => fInv_rd b pb gb pa W (hb.below h) ra g1
  have IC := Lib.hid fun (W : World) (h : Below w.heap.size w W) => fInv_rd c pc gc (pa * pb % pc) W (hc.below h) rm g2
  have MM := Lib.hid fun (W : World) => dMul_rd pa pb pc ra rb (by omega) rc W
  have S1 := Lib.hid fun W => Scale_1 pa pb ra rb W
  rw [lo_small hsm, hi_small hsm] at S1
  have S2 := Lib.hid fun W => Scale_1 (pa * pb) pc hsm rc W
  have e1 : ((pa : Int) == pb) = false := beq_eq_false_iff_ne.2 (by omega)
  have e2 : ((pa : Int) == pc) = false := beq_eq_false_iff_ne.2 (by omega)
  have e3 : ((pb : Int) == pc) = false := beq_eq_false_iff_ne.2 (by omega)
  clear ha hb hc g1 g2 n1 n2 n3
  generalize invN pa pb = s at *
  generalize invN (pa * pb % pc) pc = t at *
  generalize lo (pa * pb) pc 0 = q0 at *
  generalize hi (pa * pb) pc 0 = q1 at *
  generalize pa * pb % pc = r at *
  generalize pa * pb = m at *
  have R0 := Lib.hid (Below.refl w.heap.size w)
  go_enter Tryz.func115, Tryz.ntmps115
  go_wp2_with fail
  with_reducible refine ((PA.out _ R0.out).now).mono ?_
  rintro e_ w_ ⟨rfl, k1, rfl⟩
  go_wp2_with fail
  with_reducible refine (Rd.go (PB.out w R0.out) _).mono ?_
  rintro e_ w_ ⟨rfl, k2, rfl⟩
  go_wp2_with fail
  with_reducible refine (Rd.go (PA.out w R0.out) _).mono ?_
  rintro e_ w_ ⟨rfl, k3, rfl⟩
  go_wp2_with fail
  with_reducible refine (Rd.go (PC.out w R0.out) _).mono ?_
  rintro e_ w_ ⟨rfl, k4, rfl⟩
  go_wp2_with fail
  with_reducible refine (Rd.go (PB.out w R0.out) _).mono ?_
  rintro e_ w_ ⟨rfl, k5, rfl⟩
  go_wp2_with fail
  with_reducible refine (Rd.go (PC.out w R0.out) _).mono ?_
  rintro e_ w_ ⟨rfl, k6, rfl⟩
  go_wp2_with fail
  have K1 := Lib.hid (show Blk _ w.heap.size 255 _ from Blk.new (w.drewN (k1 + k2 + k3 + k4 + k5 + k6)) 255 #[.pointer (some ⟨a, 0, none⟩), .pointer (some ⟨b, 0, none⟩), .pointer (some ⟨c, 0, none⟩), .int .u64 0, .int .u64 0, .int .u64 0, .int .u64 0, .int .u64 0, .int .u64 0, .int .u64 0, .int .u64 0])
  have B1 := Lib.hid ((below_drewN R0.out (k1 + k2 + k3 + k4 + k5 + k6)).alloc (Nat.le_refl _) (.cells #[.pointer (some ⟨a, 0, none⟩), .pointer (some ⟨b, 0, none⟩), .pointer (some ⟨c, 0, none⟩), .int .u64 0, .int .u64 0, .int .u64 0, .int .u64 0, .int .u64 0, .int .u64 0, .int .u64 0, .int .u64 0] 255))
  generalize (w.drewN (k1 + k2 + k3 + k4 + k5 + k6)).alloc (.cells #[.pointer (some ⟨a, 0, none⟩), .pointer (some ⟨b, 0, none⟩), .pointer (some ⟨c, 0, none⟩), .int .u64 0, .int .u64 0, .int .u64 0, .int .u64 0, .int .u64 0, .int .u64 0, .int .u64 0, .int .u64 0] 255) = W1 at *
  with_reducible refine ((PA.out W1 B1.out).now).mono ?_
  rintro e_ w_ ⟨rfl, k7, rfl⟩
  go_wp2_with fail
  with_reducible refine (Rd.go (IB.out W1 B1.out) _).mono ?_
  rintro e_ w_ ⟨rfl, k8, rfl⟩
  have c3 := (K1.out.drewN (k7 + k8)).cell 3
  have f3 := (K1.out.drewN (k7 + k8)).frozen 3
  go_wp2_with fail
  have K2 := Lib.hid ((K1.out.drewN (k7 + k8)).set_ 3 (.int .u64 s))
  have B2 := Lib.hid ((below_drewN B1.out (k7 + k8)).setCell (p := ⟨w.heap.size, 3, none⟩) (Nat.le_refl _) (.int .u64 s))
  clear c3 f3 K1 B1
  generalize (W1.drewN (k7 + k8)).setCell ⟨w.heap.size, 3, none⟩ (.int .u64 s) = W2 at *
  with_reducible refine ((PA.out W2 B2.out).now).mono ?_
  rintro e_ w_ ⟨rfl, k9, rfl⟩
  go_wp2_with fail
  with_reducible refine (Rd.go (PB.out W2 B2.out) _).mono ?_
  rintro e_ w_ ⟨rfl, k10, rfl⟩
  go_wp2_with fail
  with_reducible refine (Rd.go (PC.out W2 B2.out) _).mono ?_
  rintro e_ w_ ⟨rfl, k11, rfl⟩
  go_wp2_with fail
  with_reducible refine (Rd.go (MM.out W2) _).mono ?_
  rintro e_ w_ ⟨rfl, k12, rfl⟩
  go_wp2_with fail
  with_reducible refine (Rd.go (IC.out W2 B2.out) _).mono ?_
  rintro e_ w_ ⟨rfl, k13, rfl⟩
  have c4 := (K2.out.drewN (k9 + k10 + k11 + k12 + k13)).cell 4
  have f4 := (K2.out.drewN (k9 + k10 + k11 + k12 + k13)).frozen 4
  go_wp2_with fail
  have K3 := Lib.hid ((K2.out.drewN (k9 + k10 + k11 + k12 + k13)).set_ 4 (.int .u64 t))
  have B3 := Lib.hid ((below_drewN B2.out (k9 + k10 + k11 + k12 + k13)).setCell (p := ⟨w.heap.size, 4, none⟩) (Nat.le_refl _) (.int .u64 t))
  clear c4 f4 K2 B2
  generalize (W2.drewN (k9 + k10 + k11 + k12 + k13)).setCell ⟨w.heap.size, 4, none⟩ (.int .u64 t) = W3 at *
  with_reducible refine ((PA.out W3 B3.out).now).mono ?_
  rintro e_ w_ ⟨rfl, k14, rfl⟩
  go_wp2_with fail
  with_reducible refine (Rd.go (PB.out W3 B3.out) _).mono ?_
  rintro e_ w_ ⟨rfl, k15, rfl⟩
  go_wp2_with fail
  with_reducible refine (S1.out _).mono ?_
  rintro e w4 ⟨rfl, hb4⟩
  have K4 := Lib.hid (Blk.below (K3.out.drewN (k14 + k15)) hb4 K3.out.lt)
  have B4 := Lib.hid (below_then (below_drewN B3.out (k14 + k15)) B3.out.size hb4)
  clear hb4 K3 B3
  have c5 := K4.out.cell 5
  have f5 := K4.out.frozen 5
  have c6 := K4.out.cell 6
  have f6 := K4.out.frozen 6
  have c7 := K4.out.cell 7
  have f7 := K4.out.frozen 7
  go_wp2_with fail
  have K5 := Lib.hid (show Blk (((w4.setCell ⟨w.heap.size, 5, none⟩ (.int .u64 m)).setCell ⟨w.heap.size, 6, none⟩ (.int .u64 0)).setCell ⟨w.heap.size, 7, none⟩ (.int .u64 0)) w.heap.size 255 #[.pointer (some ⟨a, 0, none⟩), .pointer (some ⟨b, 0, none⟩), .pointer (some ⟨c, 0, none⟩), .int .u64 s, .int .u64 t, .int .u64 m, .int .u64 0, .int .u64 0, .int .u64 0, .int .u64 0, .int .u64 0] from by
    have h := ((K4.out.set_ 5 (.int .u64 m)).set_ 6 (.int .u64 0)).set_ 7 (.int .u64 0)
    simp only [List.setIfInBounds_toArray, List.set_cons_zero, List.set_cons_succ] at h
    exact h)
  have B5 := Lib.hid (((B4.out.setCell (p := ⟨w.heap.size, 5, none⟩) (Nat.le_refl _) (.int .u64 m)).setCell (p := ⟨w.heap.size, 6, none⟩) (Nat.le_refl _) (.int .u64 0)).setCell (p := ⟨w.heap.size, 7, none⟩) (Nat.le_refl _) (.int .u64 0))
  clear c5 f5 c6 f6 c7 f7 K4 B4
  generalize ((w4.setCell ⟨w.heap.size, 5, none⟩ (.int .u64 m)).setCell ⟨w.heap.size, 6, none⟩ (.int .u64 0)).setCell ⟨w.heap.size, 7, none⟩ (.int .u64 0) = W5 at *
  have c5 := K5.out.cell 5
  have c6 := K5.out.cell 6
  have c7 := K5.out.cell 7
  have hS : W5.cell? ⟨w.heap.size, 5, none⟩ = some (.int .u64 m) ∧ W5.cell? ⟨w.heap.size, 6, none⟩ = some (.int .u64 0) ∧ W5.cell? ⟨w.heap.size, 7, none⟩ = some (.int .u64 0) := ⟨c5, c6, c7⟩
  have HK5 := Lib.hid fun (X Y : World) (hX : X.cell? ⟨w.heap.size, 5, none⟩ = some (.int .u64 m) ∧ X.cell? ⟨w.heap.size, 6, none⟩ = some (.int .u64 0) ∧ X.cell? ⟨w.heap.size, 7, none⟩ = some (.int .u64 0)) (h : Below X.heap.size X Y) => show Y.cell? ⟨w.heap.size, 5, none⟩ = some (.int .u64 m) ∧ Y.cell? ⟨w.heap.size, 6, none⟩ = some (.int .u64 0) ∧ Y.cell? ⟨w.heap.size, 7, none⟩ = some (.int .u64 0) from ⟨bcell h hX.1, bcell h hX.2.1, bcell h hX.2.2⟩
  have PCD := Lib.hid ((PC.out W5.drew B5.out.drew).now)
  clear PA PB PC IB IC MM S1
  go_region_held3 (fun W' => W'.cell? ⟨w.heap.size, 5, none⟩ = some (.int .u64 m) ∧ W'.cell? ⟨w.heap.size, 6, none⟩ = some (.int .u64 0) ∧ W'.cell? ⟨w.heap.size, 7, none⟩ = some (.int .u64 0)) (first | exact hS | exact hT | exact hU | exact hV | go_keep)
    (first
    | (go_at_call 23; refine PCD.out.mono ?_; rintro e_ w_ ⟨rfl, k16, rfl⟩; (have hT : (W5.drew.drewN k16).cell? ⟨w.heap.size, 5, none⟩ = some (.int .u64 m) ∧ (W5.drew.drewN k16).cell? ⟨w.heap.size, 6, none⟩ = some (.int .u64 0) ∧ (W5.drew.drewN k16).cell? ⟨w.heap.size, 7, none⟩ = some (.int .u64 0) := hS))
    | (go_at_call 174; refine (S2.out _).mono ?_; rintro e w6 ⟨rfl, hb6⟩; (have hU := HK5.out (W5.drewN (1 + k16)) _ hS hb6); (have HB6 := Lib.hid hb6); (have K6 := Lib.hid (Blk.below (K5.out.drewN (1 + k16)) hb6 K5.out.lt)); (have c8 := K6.out.cell 8); (have c9 := K6.out.cell 9); (have c10 := K6.out.cell 10); (have f8 := K6.out.frozen 8); (have f9 := K6.out.frozen 9); (have f10 := K6.out.frozen 10); (have K7 := Lib.hid (trio_put (q0 := q0) (q1 := q1) K6.out)); (have hV : (((w6.setCell ⟨w.heap.size, 8, none⟩ (.int .u64 q0)).setCell ⟨w.heap.size, 9, none⟩ (.int .u64 q1)).setCell ⟨w.heap.size, 10, none⟩ (.int .u64 0)).cell? ⟨w.heap.size, 5, none⟩ = some (.int .u64 m) ∧ (((w6.setCell ⟨w.heap.size, 8, none⟩ (.int .u64 q0)).setCell ⟨w.heap.size, 9, none⟩ (.int .u64 q1)).setCell ⟨w.heap.size, 10, none⟩ (.int .u64 0)).cell? ⟨w.heap.size, 6, none⟩ = some (.int .u64 0) ∧ (((w6.setCell ⟨w.heap.size, 8, none⟩ (.int .u64 q0)).setCell ⟨w.heap.size, 9, none⟩ (.int .u64 q1)).setCell ⟨w.heap.size, 10, none⟩ (.int .u64 0)).cell? ⟨w.heap.size, 7, none⟩ = some (.int .u64 0) := ⟨K7.out.cell 5, K7.out.cell 6, K7.out.cell 7⟩); clear hb6))
  have B7 := Lib.hid (((below_then B5.out B5.out.size (show Below W5.heap.size W5 w6 from (below_drewN (Below.refl _ _) (1 + k16)).trans HB6.out)).setCell (p := ⟨w.heap.size, 8, none⟩) (Nat.le_refl _) (.int .u64 q0)).setCell (p := ⟨w.heap.size, 9, none⟩) (Nat.le_refl _) (.int .u64 q1) |>.setCell (p := ⟨w.heap.size, 10, none⟩) (Nat.le_refl _) (.int .u64 0))
  clear c5 c6 c7 c8 c9 c10 f8 f9 f10 hS hT hU hV
  go_wp2_with fail
  go_ret2
  exact ⟨w.heap.size, s, t, rfl, K7.out, i1, i2, B7.out, Nat.le_refl _⟩
theorem tField_rd (g : Nat) (a b c s t m q0 q1 : Nat) (w : World) (h : Blk w g 255 (trioCs a b c s t m q0 q1)) :
    Rd 221 #[.pointer (some ⟨g, 0, none⟩), .int .i64 0] w (.pointer (some ⟨a, 0, none⟩)) ∧ Rd 221 #[.pointer (some ⟨g, 0, none⟩), .int .i64 1] w (.pointer (some ⟨b, 0, none⟩)) ∧ Rd 221 #[.pointer (some ⟨g, 0, none⟩), .int .i64 2] w (.pointer (some ⟨c, 0, none⟩)) := by
  have d0 : w.cell? ⟨g, 0, none⟩ = some (.pointer (some ⟨a, 0, none⟩)) := h.cell 0
  have d1 : w.cell? ⟨g, 1, none⟩ = some (.pointer (some ⟨b, 0, none⟩)) := h.cell 1
  have d2 : w.cell? ⟨g, 2, none⟩ = some (.pointer (some ⟨c, 0, none⟩)) := h.cell 2
  clear h
  refine ⟨Rd.of_same fun n => ?_, Rd.of_same fun n => ?_, Rd.of_same fun n => ?_⟩ <;>
  · go_enter Tryz.func221, Tryz.ntmps221
    go_wp2_with fail
    go_ret
    exact ⟨rfl, rfl⟩
set_option maxRecDepth 100000 in
set_option maxHeartbeats 1000000 in
theorem Product_any (g : Nat) (a b c s t m q0 q1 : Nat) (w : World) (h : Blk w g 255 (trioCs a b c s t m q0 q1)) :
    Calls Tryz.prog 260 #[.pointer (some ⟨g, 0, none⟩)] w fun e w' => e = .returned (.agg #[.int .u64 q0, .int .u64 q1, .int .u64 0]) ∧ Below w.heap.size w w' := by
  have K0 := Lib.hid (Blk.new w 252 #[.int .u64 0, .int .u64 0, .int .u64 0])
  have h1 := h.alloc (.cells #[.int .u64 0, .int .u64 0, .int .u64 0] 252)
  have d8 : (w.alloc (.cells #[.int .u64 0, .int .u64 0, .int .u64 0] 252)).cell? ⟨g, 8, none⟩ = some (.int .u64 q0) := h1.cell 8
  have d9 : (w.alloc (.cells #[.int .u64 0, .int .u64 0, .int .u64 0] 252)).cell? ⟨g, 9, none⟩ = some (.int .u64 q1) := h1.cell 9
  have d10 : (w.alloc (.cells #[.int .u64 0, .int .u64 0, .int .u64 0] 252)).cell? ⟨g, 10, none⟩ = some (.int .u64 0) := h1.cell 10
  have BB := Lib.hid ((Below.refl w.heap.size w).alloc (Nat.le_refl _) (.cells #[.int .u64 0, .int .u64 0, .int .u64 0] 252))
  clear h h1
  go_enter Tryz.func260, Tryz.ntmps260
  go_upto_region 3 with fail
  generalize w.alloc (.cells #[.int .u64 0, .int .u64 0, .int .u64 0] 252) = W at *
  have r0 := K0.out.cell 0
  have r1 := K0.out.cell 1
  have r2 := K0.out.cell 2
  have v0 := K0.out.frozen 0
  have v1 := K0.out.frozen 1
  have v2 := K0.out.frozen 2
  go_wp2_with fail
  obtain ⟨K4, F4⟩ := put3' K0.out (.int .u64 q0) (.int .u64 q1) (.int .u64 0)
  have k0 := K4.cell 0
  have k1 := K4.cell 1
  have k2 := K4.cell 2
  have HF := (Fr.of_below (fun i => False) BB.out).or' F4 (U := fun i => w.heap.size ≤ i) (fun i _ h => h.elim) (fun i hi h => by omega)
  exact bodyPost_ret (v := .agg #[.int .u64 q0, .int .u64 q1, .int .u64 0]) (by simp [results, Tryz.results260, go_sem, k0, k1, k2]) rfl ⟨rfl, HF.to_below (Nat.le_refl _) (fun i hi h => by omega)⟩
end Go.Proofs.YtpkpadepccneeaaGreatDoor

/- The walk of garner's Join of three like rests. No condition. -/
namespace Go.Proofs.YtpkpadepccneeaaGreatDoor
open Go Go.RowKit Go.Shelf
set_option linter.unusedVariables false
set_option linter.unusedSimpArgs false
theorem sub_same {x p : Nat} (hx : x < p) : (x + (p - x % p)) % p = 0 := by
  rw [Nat.mod_eq_of_lt hx, show x + (p - x) = p by omega, Nat.mod_self]
set_option maxRecDepth 100000 in
set_option maxHeartbeats 4000000 in
theorem gJoin_same (g a b c pa pb pc ga gb gc s t m q0 q1 x : Nat) (w : World) (ha : FD w a pa ga) (hb : FD w b pb gb) (hc : FD w c pc gc) (h : Blk w g 255 (trioCs a b c s t m q0 q1)) (hs : s < Mg.R) (ht : t < Mg.R) (hm : m < Mg.R) (xa : x < pa) (xb : x < pb) (xc : x < pc) :
    Calls Tryz.prog 224 #[.pointer (some ⟨g, 0, none⟩), .agg #[.int .u64 x, .int .u64 x, .int .u64 x]] w fun e w' => e = .returned (.agg #[.int .u64 x, .int .u64 0, .int .u64 0]) ∧ Below w.heap.size w w' := by
  have ra : pa < Mg.R := by have := ha.high; simp only [Mg.R]; omega
  have rc : pc < Mg.R := by have := hc.high; simp only [Mg.R]; omega
  have la := ha.low
  have lc := hc.low
  have hx : x < Mg.R := Nat.lt_trans xa ra
  have PA := Lib.hid fun (W : World) (h : Below w.heap.size w W) => fP_rd a pa ga W (ha.below h)
  have PC := Lib.hid fun (W : World) (h : Below w.heap.size w W) => fP_rd c pc gc W (hc.below h)
  have AD := Lib.hid fun (W : World) (h : Below w.heap.size w W) => (show Rd 91 #[.pointer (some ⟨a, 0, none⟩), .int .u64 x, .int .u64 0] W (.int .u64 x) from by
    have h := fAdd_rd a pa ga x 0 W (ha.below h) hx (by decide)
    rw [Nat.add_zero, Nat.mod_eq_of_lt xa] at h
    exact h)
  have SB := Lib.hid fun (W : World) (h : Below w.heap.size w W) => (show Rd 93 #[.pointer (some ⟨b, 0, none⟩), .int .u64 x, .int .u64 x] W (.int .u64 0) from by
    have h := fSub_rd b pb gb x x W (hb.below h) hx hx
    rw [sub_same xb] at h
    exact h)
  have SC := Lib.hid fun (W : World) (h : Below w.heap.size w W) => (show Rd 93 #[.pointer (some ⟨c, 0, none⟩), .int .u64 x, .int .u64 x] W (.int .u64 0) from by
    have h := fSub_rd c pc gc x x W (hc.below h) hx hx
    rw [sub_same xc] at h
    exact h)
  have MB := Lib.hid fun (W : World) (h : Below w.heap.size w W) => (show Rd 96 #[.pointer (some ⟨b, 0, none⟩), .int .u64 0, .int .u64 s] W (.int .u64 0) from by
    have h := fMul_rd b pb gb 0 s W (hb.below h) (by decide) hs
    rw [Nat.zero_mul, Nat.zero_mod] at h
    exact h)
  have MC := Lib.hid fun (W : World) (h : Below w.heap.size w W) => (show Rd 96 #[.pointer (some ⟨c, 0, none⟩), .int .u64 0, .int .u64 t] W (.int .u64 0) from by
    have h := fMul_rd c pc gc 0 t W (hc.below h) (by decide) ht
    rw [Nat.zero_mul, Nat.zero_mod] at h
    exact h)
  have P1 := Lib.hid fun W => plus_0 x pa 0 0 hx ra (by decide) (by decide) W
  have P2 := Lib.hid fun W => plus_0 x m 0 0 hx hm (by decide) (by decide) W
  have RS := Lib.hid fun W => (show Calls Tryz.prog 262 #[.agg #[.int .u64 x, .int .u64 0, .int .u64 0], .int .u64 pc] W fun e w' => e = .returned (.int .u64 x) ∧ Below W.heap.size W w' from by
    have h := Rest_0 x pc hx (by omega) rc W
    rw [Nat.mod_eq_of_lt xc] at h
    exact h)
  obtain ⟨A1, A2, HB⟩ := blocks2 w #[.int .u64 x, .int .u64 x, .int .u64 x] #[.int .u64 0, .int .u64 0, .int .u64 0] 251 252
  have K1 := Lib.hid A1
  have K2 := Lib.hid A2
  have B0 := Lib.hid HB
  have KG := Lib.hid (h.below HB h.lt)
  have hg := h.lt
  clear ha hb hc h A1 A2 HB
  go_enter Tryz.func224, Tryz.ntmps224
  go_upto_region 3 with fail
  generalize (w.alloc (.cells #[.int .u64 x, .int .u64 x, .int .u64 x] 251)).alloc (.cells #[.int .u64 0, .int .u64 0, .int .u64 0] 252) = W0 at *
  have d0 : W0.cell? ⟨g, 0, none⟩ = some (.pointer (some ⟨a, 0, none⟩)) := KG.out.cell 0
  have d1 : W0.cell? ⟨g, 1, none⟩ = some (.pointer (some ⟨b, 0, none⟩)) := KG.out.cell 1
  have d2 : W0.cell? ⟨g, 2, none⟩ = some (.pointer (some ⟨c, 0, none⟩)) := KG.out.cell 2
  have x0 := K1.out.cell 0
  go_wp2_with fail
  go_quiet (fail)
  go_wp2_with fail
  with_reducible refine (Rd.go (AD.out W0 B0.out) _).mono ?_
  rintro e_ w_ ⟨rfl, k1, rfl⟩
  have B0v := Lib.hid (below_drewN B0.out (nq + k1))
  have K1v := Lib.hid (K1.out.drewN (nq + k1))
  have K2v := Lib.hid (K2.out.drewN (nq + k1))
  have KGv := Lib.hid (KG.out.drewN (nq + k1))
  clear d0 d1 d2 x0 K1 K2 KG B0 AD
  generalize W0.drewN (nq + k1) = V at *
  go_wp2_with fail
  have hz0 := (Below.refl V.heap.size V).alloc (Nat.le_refl _) (.cells #[.int .u64 x, .int .u64 0, .int .u64 0] 252)
  have B1 := Lib.hid (below_then B0v.out B0v.out.size hz0)
  have L1 := Lib.hid (K1v.out.below hz0 K1v.out.lt)
  have L2 := Lib.hid (K2v.out.below hz0 K2v.out.lt)
  have LG := Lib.hid (KGv.out.below hz0 KGv.out.lt)
  have L9 := Lib.hid (Blk.new V 252 #[.int .u64 x, .int .u64 0, .int .u64 0])
  have n1 : w.heap.size < V.heap.size := K1v.out.lt
  have n2 : w.heap.size + 1 < V.heap.size := K2v.out.lt
  have n3 : g < V.heap.size := KGv.out.lt
  clear hz0 K1v K2v KGv B0v
  generalize V.alloc (.cells #[.int .u64 x, .int .u64 0, .int .u64 0] 252) = W1 at *
  generalize V.heap.size = b9 at *
  have hS : (W1.cell? ⟨b9, 0, none⟩ = some (.int .u64 x) ∧ W1.cell? ⟨b9, 1, none⟩ = some (.int .u64 0) ∧ W1.cell? ⟨b9, 2, none⟩ = some (.int .u64 0)) ∧ W1.cell? ⟨w.heap.size, 1, none⟩ = some (.int .u64 x) ∧ W1.cell? ⟨g, 3, none⟩ = some (.int .u64 s) := ⟨⟨L9.out.cell 0, L9.out.cell 1, L9.out.cell 2⟩, L1.out.cell 1, LG.out.cell 3⟩
  have PA1 := Lib.hid (PA.out W1 B1.out)
  have SB1 := Lib.hid (SB.out W1 B1.out)
  have MB1 := Lib.hid (MB.out W1 B1.out)
  have KEEP := Lib.hid fun (Y : World) (h : Below W1.heap.size W1 Y) => (show (Y.cell? ⟨b9, 0, none⟩ = some (.int .u64 x) ∧ Y.cell? ⟨b9, 1, none⟩ = some (.int .u64 0) ∧ Y.cell? ⟨b9, 2, none⟩ = some (.int .u64 0)) ∧ Y.cell? ⟨w.heap.size, 1, none⟩ = some (.int .u64 x) ∧ Y.cell? ⟨g, 3, none⟩ = some (.int .u64 s) from ⟨⟨bcell h hS.1.1, bcell h hS.1.2.1, bcell h hS.1.2.2⟩, bcell h hS.2.1, bcell h hS.2.2⟩)
  go_region_held3 (fun W' => (W'.cell? ⟨b9, 0, none⟩ = some (.int .u64 x) ∧ W'.cell? ⟨b9, 1, none⟩ = some (.int .u64 0) ∧ W'.cell? ⟨b9, 2, none⟩ = some (.int .u64 0)) ∧ W'.cell? ⟨w.heap.size, 1, none⟩ = some (.int .u64 x) ∧ W'.cell? ⟨g, 3, none⟩ = some (.int .u64 s)) (first | exact hS | exact hT | exact hV | go_keep)
    (first
    | (go_at_call 23; refine (Rd.go PA1.out _).mono ?_; rintro e_ w_ ⟨rfl, j1, rfl⟩)
    | (go_at_call 93; refine (Rd.go SB1.out _).mono ?_; rintro e_ w_ ⟨rfl, j2, rfl⟩)
    | (go_at_call 96; refine (Rd.go MB1.out _).mono ?_; rintro e_ w_ ⟨rfl, j3, rfl⟩)
    | (go_at_call 261; refine (P1.out _).mono ?_; rintro e w6 ⟨rfl, hb6⟩; (have hb7 := (below_drewN (Below.refl W1.heap.size W1) _).trans hb6); (have hT := KEEP.out _ hb7); (have HB6 := Lib.hid hb7); (have M9 := Lib.hid (L9.out.below hb7 L9.out.lt)); (have y0 := M9.out.cell 0); (have y1 := M9.out.cell 1); (have y2 := M9.out.cell 2); (have f0 := M9.out.frozen 0); (have f1 := M9.out.frozen 1); (have f2 := M9.out.frozen 2); (have HP := Lib.hid (put3' M9.out (.int .u64 x) (.int .u64 0) (.int .u64 0))); (have hV : ((((w6.setCell ⟨b9, 0, none⟩ (.int .u64 x)).setCell ⟨b9, 1, none⟩ (.int .u64 0)).setCell ⟨b9, 2, none⟩ (.int .u64 0)).cell? ⟨b9, 0, none⟩ = some (.int .u64 x) ∧ (((w6.setCell ⟨b9, 0, none⟩ (.int .u64 x)).setCell ⟨b9, 1, none⟩ (.int .u64 0)).setCell ⟨b9, 2, none⟩ (.int .u64 0)).cell? ⟨b9, 1, none⟩ = some (.int .u64 0) ∧ (((w6.setCell ⟨b9, 0, none⟩ (.int .u64 x)).setCell ⟨b9, 1, none⟩ (.int .u64 0)).setCell ⟨b9, 2, none⟩ (.int .u64 0)).cell? ⟨b9, 2, none⟩ = some (.int .u64 0)) ∧ (((w6.setCell ⟨b9, 0, none⟩ (.int .u64 x)).setCell ⟨b9, 1, none⟩ (.int .u64 0)).setCell ⟨b9, 2, none⟩ (.int .u64 0)).cell? ⟨w.heap.size, 1, none⟩ = some (.int .u64 x) ∧ (((w6.setCell ⟨b9, 0, none⟩ (.int .u64 x)).setCell ⟨b9, 1, none⟩ (.int .u64 0)).setCell ⟨b9, 2, none⟩ (.int .u64 0)).cell? ⟨g, 3, none⟩ = some (.int .u64 s) := ⟨⟨HP.out.1.cell 0, HP.out.1.cell 1, HP.out.1.cell 2⟩, HP.out.2.cell hT.2.1 (show ¬ w.heap.size = b9 by omega), HP.out.2.cell hT.2.2 (show ¬ g = b9 by omega)⟩); clear hb6 hb7))
  have E9 := Lib.hid HP.out.1
  have FF := Lib.hid HP.out.2
  have E1 := Lib.hid (FF.out.blk (L1.out.below HB6.out L1.out.lt) (show ¬ w.heap.size = b9 by omega))
  have E2 := Lib.hid (FF.out.blk (L2.out.below HB6.out L2.out.lt) (show ¬ w.heap.size + 1 = b9 by omega))
  have EG := Lib.hid (FF.out.blk (LG.out.below HB6.out LG.out.lt) (show ¬ g = b9 by omega))
  have B2 := Lib.hid (((Fr.of_below (fun i => False) (below_then B1.out B1.out.size HB6.out)).or' FF.out (U := fun i => w.heap.size ≤ i) (fun i _ h => h.elim) (fun i hi h => by omega)).to_below (Nat.le_refl _) (fun i hi h => by omega))
  clear hS hT hV HP y0 y1 y2 f0 f1 f2 M9 HB6 L1 L2 LG L9 B1 PA1 SB1 MB1 KEEP FF
  generalize (((w6.setCell ⟨b9, 0, none⟩ (.int .u64 x)).setCell ⟨b9, 1, none⟩ (.int .u64 0)).setCell ⟨b9, 2, none⟩ (.int .u64 0)) = W2 at *
  have hS : (W2.cell? ⟨b9, 0, none⟩ = some (.int .u64 x) ∧ W2.cell? ⟨b9, 1, none⟩ = some (.int .u64 0) ∧ W2.cell? ⟨b9, 2, none⟩ = some (.int .u64 0)) ∧ (W2.cell? ⟨g, 5, none⟩ = some (.int .u64 m) ∧ W2.cell? ⟨g, 6, none⟩ = some (.int .u64 0) ∧ W2.cell? ⟨g, 7, none⟩ = some (.int .u64 0)) ∧ W2.cell? ⟨w.heap.size, 2, none⟩ = some (.int .u64 x) ∧ W2.cell? ⟨g, 4, none⟩ = some (.int .u64 t) := ⟨⟨E9.out.cell 0, E9.out.cell 1, E9.out.cell 2⟩, ⟨EG.out.cell 5, EG.out.cell 6, EG.out.cell 7⟩, E1.out.cell 2, EG.out.cell 4⟩
  have PC2 := Lib.hid (PC.out W2 B2.out)
  have SC2 := Lib.hid fun (Y : World) (h : Below W2.heap.size W2 Y) => SC.out Y (below_then B2.out B2.out.size h)
  have MC2 := Lib.hid fun (Y : World) (h : Below W2.heap.size W2 Y) => MC.out Y (below_then B2.out B2.out.size h)
  have KEEP := Lib.hid fun (Y : World) (h : Below W2.heap.size W2 Y) => (show (Y.cell? ⟨b9, 0, none⟩ = some (.int .u64 x) ∧ Y.cell? ⟨b9, 1, none⟩ = some (.int .u64 0) ∧ Y.cell? ⟨b9, 2, none⟩ = some (.int .u64 0)) ∧ (Y.cell? ⟨g, 5, none⟩ = some (.int .u64 m) ∧ Y.cell? ⟨g, 6, none⟩ = some (.int .u64 0) ∧ Y.cell? ⟨g, 7, none⟩ = some (.int .u64 0)) ∧ Y.cell? ⟨w.heap.size, 2, none⟩ = some (.int .u64 x) ∧ Y.cell? ⟨g, 4, none⟩ = some (.int .u64 t) from ⟨⟨bcell h hS.1.1, bcell h hS.1.2.1, bcell h hS.1.2.2⟩, ⟨bcell h hS.2.1.1, bcell h hS.2.1.2.1, bcell h hS.2.1.2.2⟩, bcell h hS.2.2.1, bcell h hS.2.2.2⟩)
  clear PA PC SB SC MB MC P1
  go_wp2_with fail
  go_region_held3 (fun W' => (W'.cell? ⟨b9, 0, none⟩ = some (.int .u64 x) ∧ W'.cell? ⟨b9, 1, none⟩ = some (.int .u64 0) ∧ W'.cell? ⟨b9, 2, none⟩ = some (.int .u64 0)) ∧ (W'.cell? ⟨g, 5, none⟩ = some (.int .u64 m) ∧ W'.cell? ⟨g, 6, none⟩ = some (.int .u64 0) ∧ W'.cell? ⟨g, 7, none⟩ = some (.int .u64 0)) ∧ W'.cell? ⟨w.heap.size, 2, none⟩ = some (.int .u64 x) ∧ W'.cell? ⟨g, 4, none⟩ = some (.int .u64 t)) (first | exact hS | exact hT | exact hU | exact hV | go_keep)
    (first
    | (go_at_call 23; refine (Rd.go PC2.out _).mono ?_; rintro e_ w_ ⟨rfl, j4, rfl⟩)
    | (go_at_call 262; refine (RS.out _).mono ?_; rintro e w7 ⟨rfl, hb7⟩; (have hb7' := (below_drewN (Below.refl W2.heap.size W2) _).trans hb7); (have hT := KEEP.out _ hb7'); (have HB7 := Lib.hid hb7'); clear hb7 hb7')
    | (go_at_call 93; refine (SC2.out _ HB7.out).now.mono ?_; rintro e_ w_ ⟨rfl, j5, rfl⟩)
    | (go_at_call 96; refine (Rd.go (MC2.out _ HB7.out) _).mono ?_; rintro e_ w_ ⟨rfl, j6, rfl⟩)
    | (go_at_call 261; refine (P2.out _).mono ?_; rintro e w8 ⟨rfl, hb8⟩; (have hb9 := below_then HB7.out HB7.out.size ((below_drewN (Below.refl w7.heap.size w7) _).trans hb8)); (have hU := KEEP.out _ hb9); (have HB8 := Lib.hid hb9); (have M2 := Lib.hid (E2.out.below hb9 E2.out.lt)); (have y0 := M2.out.cell 0); (have y1 := M2.out.cell 1); (have y2 := M2.out.cell 2); (have f0 := M2.out.frozen 0); (have f1 := M2.out.frozen 1); (have f2 := M2.out.frozen 2);
        (have HP := Lib.hid (put3' M2.out (.int .u64 x) (.int .u64 0) (.int .u64 0))); (have hV : ((((w8.setCell ⟨w.heap.size + 1, 0, none⟩ (.int .u64 x)).setCell ⟨w.heap.size + 1, 1, none⟩ (.int .u64 0)).setCell ⟨w.heap.size + 1, 2, none⟩ (.int .u64 0)).cell? ⟨b9, 0, none⟩ = some (.int .u64 x) ∧ (((w8.setCell ⟨w.heap.size + 1, 0, none⟩ (.int .u64 x)).setCell ⟨w.heap.size + 1, 1, none⟩ (.int .u64 0)).setCell ⟨w.heap.size + 1, 2, none⟩ (.int .u64 0)).cell? ⟨b9, 1, none⟩ = some (.int .u64 0) ∧ (((w8.setCell ⟨w.heap.size + 1, 0, none⟩ (.int .u64 x)).setCell ⟨w.heap.size + 1, 1, none⟩ (.int .u64 0)).setCell ⟨w.heap.size + 1, 2, none⟩ (.int .u64 0)).cell? ⟨b9, 2, none⟩ = some (.int .u64 0)) ∧ ((((w8.setCell ⟨w.heap.size + 1, 0, none⟩ (.int .u64 x)).setCell ⟨w.heap.size + 1, 1, none⟩ (.int .u64 0)).setCell ⟨w.heap.size + 1, 2, none⟩ (.int .u64 0)).cell? ⟨g, 5, none⟩ = some (.int .u64 m) ∧ (((w8.setCell ⟨w.heap.size + 1, 0, none⟩ (.int .u64 x)).setCell ⟨w.heap.size + 1, 1, none⟩ (.int .u64 0)).setCell ⟨w.heap.size + 1, 2, none⟩ (.int .u64 0)).cell? ⟨g, 6, none⟩ = some (.int .u64 0) ∧ (((w8.setCell ⟨w.heap.size + 1, 0, none⟩ (.int .u64 x)).setCell ⟨w.heap.size + 1, 1, none⟩ (.int .u64 0)).setCell ⟨w.heap.size + 1, 2, none⟩ (.int .u64 0)).cell? ⟨g, 7, none⟩ = some (.int .u64 0)) ∧ (((w8.setCell ⟨w.heap.size + 1, 0, none⟩ (.int .u64 x)).setCell ⟨w.heap.size + 1, 1, none⟩ (.int .u64 0)).setCell ⟨w.heap.size + 1, 2, none⟩ (.int .u64 0)).cell? ⟨w.heap.size, 2, none⟩ = some (.int .u64 x) ∧ (((w8.setCell ⟨w.heap.size + 1, 0, none⟩ (.int .u64 x)).setCell ⟨w.heap.size + 1, 1, none⟩ (.int .u64 0)).setCell ⟨w.heap.size + 1, 2, none⟩ (.int .u64 0)).cell? ⟨g, 4, none⟩ = some (.int .u64 t) := ⟨⟨HP.out.2.cell hU.1.1 (show ¬ b9 = w.heap.size + 1 by omega), HP.out.2.cell hU.1.2.1 (show ¬ b9 = w.heap.size + 1 by omega), HP.out.2.cell hU.1.2.2 (show ¬ b9 = w.heap.size + 1 by omega)⟩, ⟨HP.out.2.cell hU.2.1.1 (show ¬ g = w.heap.size + 1 by omega), HP.out.2.cell hU.2.1.2.1 (show ¬ g = w.heap.size + 1 by omega), HP.out.2.cell hU.2.1.2.2 (show ¬ g = w.heap.size + 1 by omega)⟩, HP.out.2.cell hU.2.2.1 (show ¬ w.heap.size = w.heap.size + 1 by omega), HP.out.2.cell hU.2.2.2 (show ¬ g = w.heap.size + 1 by omega)⟩); clear hb8 hb9))
  have B3 := Lib.hid (((Fr.of_below (fun i => False) (below_then B2.out B2.out.size HB8.out)).or' HP.out.2 (U := fun i => w.heap.size ≤ i) (fun i _ h => h.elim) (fun i hi h => by omega)).to_below (Nat.le_refl _) (fun i hi h => by omega))
  have k0 := HP.out.1.cell 0
  have k1 := HP.out.1.cell 1
  have k2 := HP.out.1.cell 2
  clear hS hT hU hV y0 y1 y2 f0 f1 f2
  go_wp2_with fail
  exact bodyPost_ret (v := .agg #[.int .u64 x, .int .u64 0, .int .u64 0]) (by simp [results, Tryz.results224, go_sem, k0, k1, k2]) rfl ⟨rfl, B3.out⟩
end Go.Proofs.YtpkpadepccneeaaGreatDoor
