/- The walks of session.run, do and Do at the three things that the top's alive does. No condition. -/
import Derived.Test.YtpkpadepccneeaaGreatDoorP36
import Derived.StillTailTactics
namespace Go.Proofs.YtpkpadepccneeaaGreatDoor
set_option linter.unusedVariables false
set_option linter.unusedSimpArgs false
open Go Go.RowKit Go.Shelf Go.Maps
/-- Something that is done: its kind, a prime, a list, a view's shape and strides, axes, a way. -/
abbrev opA (k p : Int) (l a b x : Value) (way : Int) : Array Value := #[.int .i64 k, .int .i64 0, .int .i64 0, .int .u64 p, l, .int .i64 0, .int .i64 0, a, b, .int .i64 0, .int .i64 0, .slice none 0 0, .slice none 0 0, .int .i64 0, .int .i64 0, .slice none 0 0, .slice none 0 0, x, .int .i64 way, .bool false]
set_option maxRecDepth 100000 in
set_option maxHeartbeats 4000000 in
theorem run_4 (gs c m n gf lo hi gx gb cb Bb : Nat) (adA adB : Addr) (ca cv cx : Nat) (bs : List Nat) (w : World) (hsb : Blk w gs 142 (sessCs (.pointer (some ⟨gf, 0, none⟩)) (.slice (some ⟨gb, 0, none⟩) 4 cb) c)) (hf : FB lo hi w gf 5 2) (hr : RI .i64 w (some adA) [4]) (hs : RI .i64 w (some adB) [1]) (hx : w.cell? ⟨gx, 0, none⟩ = some (.int .i64 0))
    (ho : OL w Bb gb cb bs) (hl : bs.length = 4) (hb : ∀ j, j < 4 → bs.getD j 0 < 5)
    (hc : Blk w c 112 (cacheCs 1 (.slice none 0 0) m 0 0)) (hm : KM w m n (.map [])) (hn : n < 1000) (hcm : c ≠ m) (hlc : c < lo ∨ hi ≤ c) (hlm : m < lo ∨ hi ≤ m) (hhi : hi ≤ w.heap.size)
    (hA : adA.block ≠ c ∧ adA.block ≠ m ∧ adA.block ≠ gb) (hB : adB.block ≠ c ∧ adB.block ≠ m ∧ adB.block ≠ gb) (hX : gx ≠ c ∧ gx ≠ m ∧ gx ≠ gb) (hG : gb ≠ c ∧ gb ≠ m) (hlo : gb < lo ∨ hi ≤ gb) (hgb : gb < w.heap.size) :
    Calls Tryz.prog 108 #[.pointer (some ⟨gs, 0, none⟩), .pointer (some ⟨gf, 0, none⟩), .agg (opA 5 0 (.slice none 0 0) (.slice (some adA) 1 ca) (.slice (some adB) 1 cv) (.slice (some ⟨gx, 0, none⟩) 1 cx) (-1))] w fun e w' =>
      e = .returned (.int .i64 0) ∧ OL w' Bb gb cb (done4 bs) ∧ (∃ A cap, Blk w' c 112 (cacheCs 1 (.slice A 1 cap) m 0 1)) ∧ Fr (fun i => i = c ∨ i = m ∨ i = gb) w w' := by
  have HB0 := Lib.hid ((Below.refl w.heap.size w).alloc (Nat.le_refl _) (.cells (opA 5 0 (.slice none 0 0) (.slice (some adA) 1 ca) (.slice (some adB) 1 cv) (.slice (some ⟨gx, 0, none⟩) 1 cx) (-1)) 86))
  have K0 := Lib.hid (Blk.new w 86 (opA 5 0 (.slice none 0 0) (.slice (some adA) 1 ca) (.slice (some adB) 1 cv) (.slice (some ⟨gx, 0, none⟩) 1 cx) (-1)))
  have HBD := Lib.hid HB0.out.drew
  have CH := Lib.hid (has_0 gs (.pointer (some ⟨gf, 0, none⟩)) gb cb c _ (hsb.alloc (.cells (opA 5 0 (.slice none 0 0) (.slice (some adA) 1 ca) (.slice (some adB) 1 cv) (.slice (some ⟨gx, 0, none⟩) 1 cx) (-1)) 86)))
  have AX := Lib.hid (axRun_4 c m n gf lo hi gx gb cb Bb adA adB ca cv cx bs (w.alloc (.cells (opA 5 0 (.slice none 0 0) (.slice (some adA) 1 ca) (.slice (some adB) 1 cv) (.slice (some ⟨gx, 0, none⟩) 1 cx) (-1)) 86)).drew (hf.below HBD.out) (hr.below HBD.out) (hs.below HBD.out) (bcell HBD.out hx) (OI.below ho HBD.out) hl hb
    (hc.below HBD.out hc.lt) (World.ownsMap.alloc hm _) hn hcm hlc hlm (Nat.le_trans hhi HBD.out.size) hA hB hX hG hlo (Nat.lt_of_lt_of_le hgb HBD.out.size))
  have KS := Lib.hid (hsb.alloc (.cells (opA 5 0 (.slice none 0 0) (.slice (some adA) 1 ca) (.slice (some adB) 1 cv) (.slice (some ⟨gx, 0, none⟩) 1 cx) (-1)) 86))
  clear hsb hf hr hs hx ho hb hc hm
  go_enter Tryz.func108, Tryz.ntmps108
  go_wp2_with fail
  generalize w.alloc (.cells (opA 5 0 (.slice none 0 0) (.slice (some adA) 1 ca) (.slice (some adB) 1 cv) (.slice (some ⟨gx, 0, none⟩) 1 cx) (-1)) 86) = W at *
  have s4 : W.cell? ⟨gs, 4, none⟩ = some (.slice (some ⟨gb, 0, none⟩) 4 cb) := KS.out.cell 4
  have s10 : W.cell? ⟨gs, 10, none⟩ = some (.pointer (some ⟨c, 0, none⟩)) := KS.out.cell 10
  have d5 : W.cell? ⟨w.heap.size, 5, none⟩ = some (.int .i64 0) := K0.out.cell 5
  have d6 : W.cell? ⟨w.heap.size, 6, none⟩ = some (.int .i64 0) := K0.out.cell 6
  have d7 : W.cell? ⟨w.heap.size, 7, none⟩ = some (.slice (some adA) 1 ca) := K0.out.cell 7
  have d8 : W.cell? ⟨w.heap.size, 8, none⟩ = some (.slice (some adB) 1 cv) := K0.out.cell 8
  have d17 : W.cell? ⟨w.heap.size, 17, none⟩ = some (.slice (some ⟨gx, 0, none⟩) 1 cx) := K0.out.cell 17
  have d18 : W.cell? ⟨w.heap.size, 18, none⟩ = some (.int .i64 (-1)) := K0.out.cell 18
  have d19 : W.cell? ⟨w.heap.size, 19, none⟩ = some (.bool false) := K0.out.cell 19
  with_reducible refine CH.out.mono ?_
  rintro e w1 ⟨rfl, rfl⟩
  go_wp2_with fail
  go_still_tail 23, (by kernel_rfl)
  change wpList _ _ _ _ _ W.drew
  go_wp2_with fail
  refine AX.out.mono ?_
  rintro e w2 ⟨rfl, ho2, hc2, hf2⟩
  have HO := Lib.hid ho2
  have HC := Lib.hid hc2
  have HF := Lib.hid ((Fr.of_below (fun i => i = c ∨ i = m ∨ i = gb) HBD.out).trans hf2)
  clear ho2 hc2 hf2
  go_wp2_with fail
  go_ret
  exact ⟨rfl, HO.out, HC.out, HF.out⟩
set_option maxRecDepth 100000 in
set_option maxHeartbeats 4000000 in
theorem do_small (gs : Nat) (f0 b0 : Value) (c : Nat) (w : World) (hsb : Blk w gs 142 (sessCs f0 b0 c)) :
    Calls Tryz.prog 58 #[.pointer (some ⟨gs, 0, none⟩), .agg (opA 0 5 (.slice none 0 0) (.slice none 0 0) (.slice none 0 0) (.slice none 0 0) 0)] w fun e w' => ∃ gf hi, e = .returned (.int .i64 0) ∧ FB w.heap.size hi w' gf 5 2 ∧ hi ≤ w'.heap.size ∧ Blk w' gs 142 (sessCs (.pointer (some ⟨gf, 0, none⟩)) b0 c) ∧ Fr (fun i => i = gs) w w' := by
  have HB0 := Lib.hid ((Below.refl w.heap.size w).alloc (Nat.le_refl _) (.cells (opA 0 5 (.slice none 0 0) (.slice none 0 0) (.slice none 0 0) (.slice none 0 0) 0) 86))
  have K0 := Lib.hid (Blk.new w 86 (opA 0 5 (.slice none 0 0) (.slice none 0 0) (.slice none 0 0) (.slice none 0 0) 0))
  have KS := Lib.hid (hsb.alloc (.cells (opA 0 5 (.slice none 0 0) (.slice none 0 0) (.slice none 0 0) (.slice none 0 0) 0) 86))
  have hlt := hsb.lt
  clear hsb
  go_enter Tryz.func58, Tryz.ntmps58
  go_wp2_with fail
  have e3 : (w.alloc (.cells (opA 0 5 (.slice none 0 0) (.slice none 0 0) (.slice none 0 0) (.slice none 0 0) 0) 86)).cell? ⟨w.heap.size, 3, none⟩ = some (.int .u64 5) := K0.out.cell 3
  refine (Small_5 _).mono ?_
  rintro e w1 ⟨gf, rfl, hf1, hb1⟩
  have HF := Lib.hid hf1
  have HB1 := Lib.hid (below_then HB0.out HB0.out.size hb1)
  have K1 := Lib.hid (K0.out.below hb1 K0.out.lt)
  have KS1 := Lib.hid (KS.out.below hb1 KS.out.lt)
  have hs1 : (w.alloc (.cells (opA 0 5 (.slice none 0 0) (.slice none 0 0) (.slice none 0 0) (.slice none 0 0) 0) 86)).heap.size = w.heap.size + 1 := by simp
  rw [hs1] at HF
  have d1 : w1.cell? ⟨w.heap.size, 1, none⟩ = some (.int .i64 0) := K1.out.cell 1
  have CP := Lib.hid (put_0 gs f0 b0 c gf w1 KS1.out)
  clear hf1 hb1 e3
  go_wp2_with fail
  refine CP.out.mono ?_
  rintro e w2 ⟨rfl, rfl⟩
  have HK := Lib.hid (show Blk (w1.setCell ⟨gs, 0, none⟩ (.pointer (some ⟨gf, 0, none⟩))) gs 142 (sessCs (.pointer (some ⟨gf, 0, none⟩)) b0 c) from KS1.out.set_ 0 (.pointer (some ⟨gf, 0, none⟩)))
  have HFR := Lib.hid (Fr.setCell (S := fun i => i = gs) (p := ⟨gs, 0, none⟩) rfl w1 (.pointer (some ⟨gf, 0, none⟩)))
  have HFF := Lib.hid (HF.out.fr HFR.out (fun i h1 h2 e => by omega))
  go_wp2_with fail
  go_ret
  have hfin : FB w.heap.size w1.heap.size (w1.setCell ⟨gs, 0, none⟩ (.pointer (some ⟨gf, 0, none⟩))) gf 5 2 := by
    have h := HFF.out
    obtain ⟨gc, h1, h2, h3⟩ := h.mc
    exact ⟨by have := h.above; omega, h.under, ⟨gc, by omega, h2, h3⟩, h.cp, h.cg⟩
  exact ⟨gf, w1.heap.size, rfl, hfin, HFR.out.size, HK.out, (Fr.of_below _ HB1.out).trans HFR.out⟩
set_option maxRecDepth 100000 in
set_option maxHeartbeats 4000000 in
theorem do_buffer (gs : Nat) (f0 b0 : Value) (c : Nat) (ad : Addr) (cp : Nat) (l : List Int) (w : World) (hsb : Blk w gs 142 (sessCs f0 b0 c)) (hr : RI .u64 w (some ad) l) (hl : l.length = 4) :
    Calls Tryz.prog 58 #[.pointer (some ⟨gs, 0, none⟩), .agg (opA 2 0 (.slice (some ad) 4 cp) (.slice none 0 0) (.slice none 0 0) (.slice none 0 0) 0)] w fun e w' => ∃ gb cb, e = .returned (.int .i64 0) ∧ OI .u64 22 w' w.heap.size (.slice (some ⟨gb, 0, none⟩) 4 cb) l ∧ Blk w' gs 142 (sessCs f0 (.slice (some ⟨gb, 0, none⟩) 4 cb) c) ∧ Fr (fun i => i = gs) w w' := by
  have HB0 := Lib.hid ((Below.refl w.heap.size w).alloc (Nat.le_refl _) (.cells (opA 2 0 (.slice (some ad) 4 cp) (.slice none 0 0) (.slice none 0 0) (.slice none 0 0) 0) 86))
  have K0 := Lib.hid (Blk.new w 86 (opA 2 0 (.slice (some ad) 4 cp) (.slice none 0 0) (.slice none 0 0) (.slice none 0 0) 0))
  have CL := Lib.hid (lay_0 gs f0 b0 c ad cp l (w.alloc (.cells (opA 2 0 (.slice (some ad) 4 cp) (.slice none 0 0) (.slice none 0 0) (.slice none 0 0) 0) 86)) (hsb.alloc _) (hr.below HB0.out) hl)
  clear hsb hr hl
  go_enter Tryz.func58, Tryz.ntmps58
  go_upto_region 9 with fail
  have e4 : (w.alloc (.cells (opA 2 0 (.slice (some ad) 4 cp) (.slice none 0 0) (.slice none 0 0) (.slice none 0 0) 0) 86)).cell? ⟨w.heap.size, 4, none⟩ = some (.slice (some ad) 4 cp) := K0.out.cell 4
  have e5 : (w.alloc (.cells (opA 2 0 (.slice (some ad) 4 cp) (.slice none 0 0) (.slice none 0 0) (.slice none 0 0) 0) 86)).cell? ⟨w.heap.size, 5, none⟩ = some (.int .i64 0) := K0.out.cell 5
  go_wp2_with fail
  refine CL.out.mono ?_
  rintro e w2 ⟨gb, cb, rfl, ho2, hk2, hf2⟩
  have HO := Lib.hid ho2
  have HK := Lib.hid hk2
  have HF := Lib.hid ((Fr.of_below (fun i => i = gs) HB0.out).trans hf2)
  clear ho2 hk2 hf2
  go_wp2_with fail
  go_ret
  exact ⟨gb, cb, rfl, HO.out.mono HB0.out.size, HK.out, HF.out⟩
end Go.Proofs.YtpkpadepccneeaaGreatDoor

/- The walks of session.do and Do, with the whole of what is done in hand. No condition. -/
namespace Go.Proofs.YtpkpadepccneeaaGreatDoor
set_option linter.unusedVariables false
set_option linter.unusedSimpArgs false
open Go Go.RowKit Go.Shelf Go.Maps
theorem size86 : (Tryz.prog.info? 86).map (·.size) = some 20 := by kernel_rfl
set_option maxRecDepth 100000 in
set_option maxHeartbeats 4000000 in
theorem Do_of (gs : Nat) (k p : Int) (l a b x : Value) (way : Int) (hk : (k == 3) = false) (w : World) (Q : World → Prop)
    (h : Calls Tryz.prog 58 #[.pointer (some ⟨gs, 0, none⟩), .agg (opA k p l a b x way)] ((w.alloc (.cells (opA k p l a b x way) 86)).alloc (.cells #[.int .i64 0, .slice none 0 0] 82)) fun e w' => e = .returned (.int .i64 0) ∧ Q w' ∧ Blk w' (w.heap.size + 1) 82 #[.int .i64 0, .slice none 0 0]) :
    Calls Tryz.prog 27 #[.pointer (some ⟨gs, 0, none⟩), .agg (opA k p l a b x way)] w fun e w' => e = .returned (.agg #[.int .i64 0, .slice none 0 0]) ∧ ∃ w1, Q w1 ∧ Fr (fun i => i = w.heap.size + 1) w1 w' := by
  have H := Lib.hid h
  have hk' : (k != 3) = true := by rw [bne, hk]; rfl
  have K0 := Lib.hid ((Blk.new w 86 (opA k p l a b x way)).alloc (.cells #[.int .i64 0, .slice none 0 0] 82))
  clear h
  go_enter Tryz.func27, Tryz.ntmps27
  go_upto_region 4 with fail
  go_wp2_with (refine wpList_load_row rfl 86 (.tmp 3) rfl w.heap.size rfl 86 (opA k p l a b x way) (0, 0) _ K0.out Tryz.underlying86 rfl size86 ?_)
  refine H.out.mono ?_
  rintro e w1 ⟨rfl, hq, hb⟩
  have c0 := hb.cell 0
  have c1 := hb.cell 1
  have f0 := hb.frozen 0
  have f1 := hb.frozen 1
  have HQ := Lib.hid hq
  have HK := Lib.hid (show Blk ((w1.setCell ⟨w.heap.size + 1, 0, none⟩ (.int .i64 0)).setCell ⟨w.heap.size + 1, 1, none⟩ (.slice none 0 0)) (w.heap.size + 1) 82 #[.int .i64 0, .slice none 0 0] from (hb.set_ 0 (.int .i64 0)).set_ 1 (.slice none 0 0))
  have HF := Lib.hid ((Fr.setCell (S := fun i => i = w.heap.size + 1) (p := ⟨w.heap.size + 1, 0, none⟩) rfl w1 (.int .i64 0)).trans (Fr.setCell (S := fun i => i = w.heap.size + 1) (p := ⟨w.heap.size + 1, 1, none⟩) rfl _ (.slice none 0 0)))
  clear hq hb
  go_wp2_with fail
  have q0 := HK.out.cell 0
  have q1 := HK.out.cell 1
  exact bodyPost_ret (v := .agg #[.int .i64 0, .slice none 0 0]) (by simp [results, Tryz.results27, go_sem, q0, q1]) rfl ⟨rfl, w1, HQ.out, HF.out⟩
theorem still_load_row {P : Program} {ops : Array Oper} {w : World} {Q : Act → Prop} {a : Act} {o : Oper} {rest : List Oper} (hgd : o.guard = none) (ty : TypeId) (x : Operand) (ho : o.op = .load ty x)
    (g : Nat) (hx : a.eval x = .pointer (some ⟨g, 0, none⟩)) (t : TypeId) (cs : Array Value) (fr : Nat × Nat) (d : TypeDesc) (hg : w.heap[g]? = some (.cells cs t fr))
    (hu : P.underlying ty = some d) (hd : (match d with | .struct _ | .array _ _ => true | _ => false) = true) (hi : (P.info? ty).map (·.size) = some cs.size)
    (h : wpStill P ops w Q rest (a.put o.dst (.agg cs))) : wpStill P ops w Q (o :: rest) a := by
  have e : (execOp a.eval o).run P w = .ok (.value (.agg cs)) w := by
    unfold execOp
    simp only [ho, hx, Instr.loadAt, Instr.sureAddr, Sem.run_bind, Sem.run_pure, Result.andThen_ok, run_loadVar_row w g t ty cs fr d hg hu hd hi]
  show if Region.wanted o (yielded ops a.tmps) then o.still P a w (wpStill P ops w Q rest) else _
  rw [if_pos (by unfold Region.wanted; rw [hgd])]
  unfold Oper.still
  rw [e, Oper.stillUpon_value]
  exact h
set_option maxRecDepth 100000 in
set_option maxHeartbeats 4000000 in
theorem do_run (gs c m n gf lo hi gx gb cb Bb : Nat) (adA adB : Addr) (ca cv cx : Nat) (bs : List Nat) (w : World) (hsb : Blk w gs 142 (sessCs (.pointer (some ⟨gf, 0, none⟩)) (.slice (some ⟨gb, 0, none⟩) 4 cb) c)) (hf : FB lo hi w gf 5 2) (hr : RI .i64 w (some adA) [4]) (hs : RI .i64 w (some adB) [1]) (hx : w.cell? ⟨gx, 0, none⟩ = some (.int .i64 0))
    (ho : OL w Bb gb cb bs) (hl : bs.length = 4) (hb : ∀ j, j < 4 → bs.getD j 0 < 5)
    (hc : Blk w c 112 (cacheCs 1 (.slice none 0 0) m 0 0)) (hm : KM w m n (.map [])) (hn : n < 1000) (hcm : c ≠ m) (hlc : c < lo ∨ hi ≤ c) (hlm : m < lo ∨ hi ≤ m) (hhi : hi ≤ w.heap.size)
    (hA : adA.block ≠ c ∧ adA.block ≠ m ∧ adA.block ≠ gb) (hB : adB.block ≠ c ∧ adB.block ≠ m ∧ adB.block ≠ gb) (hX : gx ≠ c ∧ gx ≠ m ∧ gx ≠ gb) (hG : gb ≠ c ∧ gb ≠ m) (hlo : gb < lo ∨ hi ≤ gb) (hgb : gb < w.heap.size) :
    Calls Tryz.prog 58 #[.pointer (some ⟨gs, 0, none⟩), .agg (opA 5 0 (.slice none 0 0) (.slice (some adA) 1 ca) (.slice (some adB) 1 cv) (.slice (some ⟨gx, 0, none⟩) 1 cx) (-1))] w fun e w' =>
      e = .returned (.int .i64 0) ∧ OL w' Bb gb cb (done4 bs) ∧ (∃ A cap, Blk w' c 112 (cacheCs 1 (.slice A 1 cap) m 0 1)) ∧ Fr (fun i => i = c ∨ i = m ∨ i = gb) w w' := by
  have HB0 := Lib.hid ((Below.refl w.heap.size w).alloc (Nat.le_refl _) (.cells (opA 5 0 (.slice none 0 0) (.slice (some adA) 1 ca) (.slice (some adB) 1 cv) (.slice (some ⟨gx, 0, none⟩) 1 cx) (-1)) 86))
  have K0 := Lib.hid (Blk.new w 86 (opA 5 0 (.slice none 0 0) (.slice (some adA) 1 ca) (.slice (some adB) 1 cv) (.slice (some ⟨gx, 0, none⟩) 1 cx) (-1)))
  have HBD := Lib.hid HB0.out.drew
  have CF := Lib.hid (W.flipw (field_0 gs (.pointer (some ⟨gf, 0, none⟩)) (.slice (some ⟨gb, 0, none⟩) 4 cb) c (w.alloc (.cells (opA 5 0 (.slice none 0 0) (.slice (some adA) 1 ca) (.slice (some adB) 1 cv) (.slice (some ⟨gx, 0, none⟩) 1 cx) (-1)) 86)).drew (hsb.below HBD.out hsb.lt)))
  have AX := Lib.hid (run_4 gs c m n gf lo hi gx gb cb Bb adA adB ca cv cx bs (w.alloc (.cells (opA 5 0 (.slice none 0 0) (.slice (some adA) 1 ca) (.slice (some adB) 1 cv) (.slice (some ⟨gx, 0, none⟩) 1 cx) (-1)) 86)).drew (hsb.below HBD.out hsb.lt) (hf.below HBD.out) (hr.below HBD.out) (hs.below HBD.out) (bcell HBD.out hx) (OI.below ho HBD.out) hl hb
    (hc.below HBD.out hc.lt) (World.ownsMap.alloc hm _) hn hcm hlc hlm (Nat.le_trans hhi HBD.out.size) hA hB hX hG hlo (Nat.lt_of_lt_of_le hgb HBD.out.size))
  clear hsb hf hr hs hx ho hb hc hm
  go_enter Tryz.func58, Tryz.ntmps58
  go_upto_region 13 with fail
  generalize w.alloc (.cells (opA 5 0 (.slice none 0 0) (.slice (some adA) 1 ca) (.slice (some adB) 1 cv) (.slice (some ⟨gx, 0, none⟩) 1 cx) (-1)) 86) = W at *
  have d1 : W.cell? ⟨w.heap.size, 1, none⟩ = some (.int .i64 0) := K0.out.cell 1
  go_wp2_with fail
  go_still_tail 6, (by kernel_rfl)
  still_call CF.out
  refine still_load_row rfl 86 (.tmp 3) rfl w.heap.size rfl 86 (opA 5 0 (.slice none 0 0) (.slice (some adA) 1 ca) (.slice (some adB) 1 cv) (.slice (some ⟨gx, 0, none⟩) 1 cx) (-1)) (0, 0) _ (show Blk W.drew w.heap.size 86 _ from K0.out) Tryz.underlying86 rfl size86 ?_
  repeat still_step
  refine wpStill_nil ?_
  change wpList _ _ _ _ _ W.drew
  go_wp2_with fail
  refine AX.out.mono ?_
  rintro e w2 ⟨rfl, ho2, hc2, hf2⟩
  have HO := Lib.hid ho2
  have HC := Lib.hid hc2
  have HF := Lib.hid ((Fr.of_below (fun i => i = c ∨ i = m ∨ i = gb) HBD.out).trans hf2)
  clear ho2 hc2 hf2
  go_wp2_with fail
  go_ret
  exact ⟨rfl, HO.out, HC.out, HF.out⟩
end Go.Proofs.YtpkpadepccneeaaGreatDoor
