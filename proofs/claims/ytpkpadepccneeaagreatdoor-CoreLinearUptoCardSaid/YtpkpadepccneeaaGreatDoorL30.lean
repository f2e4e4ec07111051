/- The walk of convolve.Linear of two lists of one number. No condition. -/
import Derived.Test.YtpkpadepccneeaaGreatDoorL29
import Derived.Lib.AppendZeros
import Derived.Test.YtpkpadepccneeaaGreatDoorL28
import Derived.Lib.ItoaMem
import Derived.Shelf.Strings.Builder1
import Derived.Test.YtpkpadepccneeaaGreatDoorL14
import Derived.Laws.RangeString
import Derived.Lib.AtoiErrMem
namespace Go.Proofs.YtpkpadepccneeaaGreatDoor
set_option linter.unusedVariables false
set_option linter.unusedSimpArgs false
open Go Go.RowKit Go.Shelf
theorem append_none (W : World) (a : Addr) (n c : Nat) (hc : n ≤ c) : (Builtin.append_ #[26, 3] 26 #[.slice (some a) n c, .int .i64 0]).run Tryz.prog W = .ok (.slice (some a) n c) W := by
  obtain ⟨i0, h1, h2, h3, h4⟩ := info_parts info22
  have hw : IntKind.i64.wrap 0 = 0 := by decide
  have hs : (storeCells (a.add n) [] 0).run Tryz.prog W = .ok () W := rfl
  simp [Builtin.append_, run_underlying Tryz.underlying26, run_underlying Tryz.underlying3, sizeOf, typeInfo, zeroValue, h1, h2, h3, h4, asInt, asIntOf, hw, hc, hs, Question.forced]
theorem OI.cap {k : IntKind} {e : TypeId} {w : World} {B g n c : Nat} {l : List Int} (h : OI k e w B (.slice (Option.some ⟨g, 0, none⟩) n c) l) : l.length ≤ c := by
  rcases h.2 with ⟨h1, _⟩ | ⟨g', cap, cur, h1, _, _, h2, _⟩
  · cases h1
  · injection h1 with _ _ h3
    rw [h3]; exact h2
/-- A row of one number that a step made. -/
structure One (w W : World) (x g c : Nat) : Prop where
  r : OI .u64 22 W w.heap.size (.slice (some ⟨g, 0, none⟩) 1 c) [(x : Int)]
  b : Below w.heap.size w W
theorem One.ri {w W : World} {x g c : Nat} (h : One w W x g c) : RI .u64 W (some ⟨g, 0, none⟩) [(x : Int)] := by
  obtain ⟨A, c', e, hr⟩ := h.r.form
  injection e with e _ _
  rw [e]; exact hr
theorem One.then {w W W' : World} {x g c : Nat} (h : One w W x g c) (k : Below W.heap.size W W') : One w W' x g c := ⟨OI.below h.r k, below_then h.b h.b.size k⟩
theorem one_of {w W W' : World} {v : Value} {x : Nat} (hb : Below w.heap.size w W) (h : OI .u64 22 W' W.heap.size v [(x : Int)]) (k : Below W.heap.size W W') : ∃ g c, v = .slice (some ⟨g, 0, none⟩) 1 c ∧ 1 ≤ c ∧ One w W' x g c := by
  obtain ⟨A, c, rfl, _⟩ := h.form
  obtain ⟨g, rfl⟩ := OI.some h (i := 0) (by simp)
  exact ⟨g, c, rfl, OI.cap h, OI.mono h hb.size, below_then hb hb.size k⟩
set_option maxRecDepth 100000 in
set_option maxHeartbeats 2000000 in
theorem Linear_1 (gf p g : Nat) (ad bd : Addr) (c d x y : Nat) (w : World) (hf : FD w gf p g) (hg : g < Mg.R) (hx : RI .u64 w (some ad) [(x : Int)]) (hy : RI .u64 w (some bd) [(y : Int)]) (hxp : x < p) (hyp : y < p) (hone : g ^ (p - 1) % p = 1) :
    Calls Tryz.prog 18 #[.pointer (some ⟨gf, 0, none⟩), .slice (some ad) 1 c, .slice (some bd) 1 d] w fun e w' => ∃ g' c', e = .returned (.tuple #[.slice (some ⟨g', 0, none⟩) 1 c', .int .i64 0]) ∧ w'.cell? ⟨g', 0, none⟩ = some (.int .u64 ((x * y % p : Nat) : Int)) ∧ w.heap.size ≤ g' ∧ Below w.heap.size w w' := by
  have hR : p < Mg.R := by have := hf.high; simp only [Mg.R]; omega
  have hp : 0 < p := by have := hf.low; omega
  have hd : divs p 1 = true := divs_iff.2 ⟨by decide, by simp [Nat.mod_one]⟩
  have C1 := fDivides_rd gf p g 1 w hf (by decide)
  rw [hd] at C1
  have C2 := cGood_yes gf p g 1 1 (some ad) (some bd) c d [x] [y] w hf hx hy rfl rfl (by decide) (by decide) (one_lt hxp) (one_lt hyp)
  have HX := Lib.hid fun (W : World) (h : Below w.heap.size w W) => hx.below h
  have HY := Lib.hid fun (W : World) (h : Below w.heap.size w W) => hy.below h
  have DN := Lib.hid fun (W : World) (h : Below w.heap.size w W) (a : Addr) (c x : Nat) (hx : RI .u64 W (some a) [(x : Int)]) (hxp : x < p) => Down_1 gf p g a c x W (hf.below h) hg hx hxp
  have UP := Lib.hid fun (W : World) (h : Below w.heap.size w W) (a : Addr) (c x : Nat) (hx : RI .u64 W (some a) [(x : Int)]) (hxp : x < p) => Up_1 gf p g a c x W (hf.below h) hg hx hxp hone
  have TM := Lib.hid fun (W : World) (h : Below w.heap.size w W) (a b : Addr) (c d : Nat) (hx : RI .u64 W (some a) [(x : Int)]) (hy : RI .u64 W (some b) [(y : Int)]) => times_any gf p g (some a) (some b) c d 1 [x] [y] W (hf.below h) hx hy rfl rfl (by decide) (one_lt (Nat.lt_trans hxp hR)) (one_lt (Nat.lt_trans hyp hR))
  clear hf hx hy hd
  go_enter Tryz.func18, Tryz.ntmps18
  go_wp2_with fail
  refine (Pad_1 _).mono ?_
  rintro e w' ⟨rfl, rfl⟩
  go_wp2_with fail
  with_reducible refine C1.now.mono ?_
  rintro e_ w_ ⟨rfl, k1, rfl⟩
  go_wp2_with fail
  with_reducible refine (Rd.go (C2) _).mono ?_
  rintro e_ w_ ⟨rfl, k2, rfl⟩
  have B0 := Lib.hid (below_drewN (Below.refl w.heap.size w) (k1 + k2))
  go_wp2_with fail
  refine (Pad_1 _).mono ?_
  rintro e w' ⟨rfl, h⟩
  subst h
  generalize w.drewN (k1 + k2) = V at *
  have BA := Lib.hid ((Below.refl V.heap.size V).alloc (Nat.le_refl _) (.cells #[] 22))
  have HO := Lib.hid (show OI .u64 22 (V.alloc (.cells #[] 22)) V.heap.size (.slice (some ⟨V.heap.size, 0, none⟩) 0 0) [] from World.ownsRow_made V #[] 0 (Nat.le_refl _) (by decide) rfl)
  have HR := Lib.hid (HX.out _ (below_then B0.out B0.out.size BA.out))
  go_upto_region 14 with (first
    | (at_builtin; refine wpList_appendRI rfl (.tmp 47) (.tmp 48) 26 rfl V.heap.size 22 .u64 8 Tryz.underlying26 info22 (by decide) (.slice (some ⟨V.heap.size, 0, none⟩) 0 0) [] [(x : Int)] (some ad) c rfl rfl HO.out HR.out (by intro h; cases h) (by simp) (by simp) ?_; intro v w1 ho hb; obtain ⟨g1, c1, rfl, hc1, ho1⟩ := one_of B0.out ho (BA.out.trans hb); (have O1 := Lib.hid ho1); (have E1 := Lib.hid (append_none w1 ⟨g1, 0, none⟩ 1 c1 hc1)); clear ho hb ho1 hc1)
    | (at_builtin; refine Lib.wpList_append_run _ rfl (.tmp 49) (.tmp 53) 26 3 rfl (.slice (some ⟨g1, 0, none⟩) 1 c1) (.int .i64 0) rfl rfl _ _ E1.out ?_))
  clear HO HR BA B0 E1
  have BA := Lib.hid ((Below.refl w1.heap.size w1).alloc (Nat.le_refl _) (.cells #[] 22))
  have HO := Lib.hid (show OI .u64 22 (w1.alloc (.cells #[] 22)) w1.heap.size (.slice (some ⟨w1.heap.size, 0, none⟩) 0 0) [] from World.ownsRow_made w1 #[] 0 (Nat.le_refl _) (by decide) rfl)
  have HR := Lib.hid (HY.out _ (below_then O1.out.b O1.out.b.size BA.out))
  go_wp2_with (first
    | (at_builtin; refine wpList_appendRI rfl (.tmp 55) (.tmp 56) 26 rfl w1.heap.size 22 .u64 8 Tryz.underlying26 info22 (by decide) (.slice (some ⟨w1.heap.size, 0, none⟩) 0 0) [] [(y : Int)] (some bd) d rfl rfl HO.out HR.out (by intro h; cases h) (by simp) (by simp) ?_; intro v w2 ho hb; obtain ⟨g2, c2, rfl, hc2, ho2⟩ := one_of O1.out.b ho (BA.out.trans hb); (have O2 := Lib.hid ho2); (have P1 := Lib.hid (O1.out.then (BA.out.trans hb))); (have E2 := Lib.hid (append_none w2 ⟨g2, 0, none⟩ 1 c2 hc2)); clear ho hb ho2 hc2)
    | (at_builtin; refine Lib.wpList_append_run _ rfl (.tmp 57) (.tmp 61) 26 3 rfl (.slice (some ⟨g2, 0, none⟩) 1 c2) (.int .i64 0) rfl rfl _ _ E2.out ?_))
  clear HO HR BA E2 O1 HX HY
  refine (DN.out w2 O2.out.b _ _ _ P1.out.ri hxp).mono ?_
  rintro e w3 ⟨g3, rfl, ho3, hb3⟩
  have O3 := Lib.hid (show One w w3 x g3 1 from ⟨OI.mono ho3 O2.out.b.size, below_then O2.out.b O2.out.b.size hb3⟩)
  have P2 := Lib.hid (O2.out.then hb3)
  clear ho3 hb3 P1 O2
  go_wp2_with fail
  refine (DN.out w3 O3.out.b _ _ _ P2.out.ri hyp).mono ?_
  rintro e w4 ⟨g4, rfl, ho4, hb4⟩
  have O4 := Lib.hid (show One w w4 y g4 1 from ⟨OI.mono ho4 O3.out.b.size, below_then O3.out.b O3.out.b.size hb4⟩)
  have P3 := Lib.hid (O3.out.then hb4)
  clear ho4 hb4 P2 O3
  go_wp2_with fail
  refine (TM.out w4 O4.out.b _ _ _ _ P3.out.ri O4.out.ri).mono ?_
  rintro e w5 ⟨g5, rfl, ho5, hb5⟩
  have hz : mulL p [x] [y] 1 = [x * y % p] := by simp [mulL, List.range_succ]
  rw [hz] at ho5
  have O5 := Lib.hid (show One w w5 (x * y % p) g5 1 from ⟨OI.mono ho5 O4.out.b.size, below_then O4.out.b O4.out.b.size hb5⟩)
  have hzp := Nat.mod_lt (x * y) hp
  clear ho5 hb5 P3 O4 hz
  generalize hzz : x * y % p = z at *
  have HZ := Lib.hid hzz
  clear hzz
  go_wp2_with fail
  refine (UP.out w5 O5.out.b _ _ _ O5.out.ri hzp).mono ?_
  rintro e w6 ⟨g6, rfl, ho6, hb6⟩
  have O6 := Lib.hid (show One w w6 z g6 1 from ⟨OI.mono ho6 O5.out.b.size, below_then O5.out.b O5.out.b.size hb6⟩)
  have HC := Lib.hid (show w6.cell? ⟨g6, 0, none⟩ = some (.int .u64 (z : Int)) from (show OI .u64 22 w6 w5.heap.size (.slice (some ⟨g6, 0, none⟩) [(z : Int)].length 1) [(z : Int)] from ho6).cellAt (i := 0) (by simp))
  clear ho6 hb6 O5
  go_wp2_with fail
  go_ret2
  exact ⟨g6, 1, rfl, by rw [HZ.out]; exact HC.out, (OI.base O6.out.r).1, O6.out.b⟩
end Go.Proofs.YtpkpadepccneeaaGreatDoor

/- The walks of exact at the lists 12 and 12: most, Fits, check, rests, join, Unsigned. No condition. -/
namespace Go.Proofs.YtpkpadepccneeaaGreatDoor
set_option linter.unusedVariables false
set_option linter.unusedSimpArgs false
open Go Go.RowKit Go.Shelf
/-- A field whose G is of full order, in a world. -/
structure FU (w : World) (gf p g : Nat) : Prop where
  fd : FD w gf p g
  gR : g < Mg.R
  big : 144 < p
  one : g ^ (p - 1) % p = 1
/-- A trio that lies. -/
structure Tr (w : World) (g a b c pa pb pc ga gb gc s t m q0 q1 : Nat) : Prop where
  ha : FU w a pa ga
  hb : FU w b pb gb
  hc : FU w c pc gc
  bl : Blk w g 255 (trioCs a b c s t m q0 q1)
  hs : s < Mg.R
  ht : t < Mg.R
  hm : m < Mg.R
  hq : 0 < q1
theorem FU.below {w w1 : World} {gf p g : Nat} (h : FU w gf p g) (hb : Below w.heap.size w w1) : FU w1 gf p g := ⟨h.fd.below hb, h.gR, h.big, h.one⟩
theorem Tr.below {w w1 : World} {g a b c pa pb pc ga gb gc s t m q0 q1 : Nat} (h : Tr w g a b c pa pb pc ga gb gc s t m q0 q1) (k : Below w.heap.size w w1) : Tr w1 g a b c pa pb pc ga gb gc s t m q0 q1 :=
  ⟨h.ha.below k, h.hb.below k, h.hc.below k, h.bl.below k h.bl.lt, h.hs, h.ht, h.hm, h.hq⟩
theorem rest_rd (gf p g x : Nat) (w : World) (hf : FD w gf p g) (hx : x < p) : Rd 165 #[.pointer (some ⟨gf, 0, none⟩), .int .u64 x] w (.int .u64 x) := by
  refine Rd.of_drawn fun q => ?_
  have hR : p < Mg.R := by have := hf.high; simp only [Mg.R]; omega
  have C := fAdd_rd gf p g x 0 w hf (Nat.lt_trans hx hR) (by decide)
  rw [Nat.add_zero, Nat.mod_eq_of_lt hx] at C
  replace C : Rd 91 #[.pointer (some ⟨gf, 0, none⟩), .int .u64 x, .int .u64 0] w (.int .u64 x) := C
  clear hf
  go_enter Tryz.func165, Tryz.ntmps165
  go_wp2_with fail
  with_reducible refine (Rd.go (C) _).mono ?_
  rintro e_ w_ ⟨rfl, k1, rfl⟩
  go_wp2_with fail
  go_ret
  exact ⟨rfl, drawn_le (by omega)⟩
theorem most_12 (ad : Addr) (c : Nat) (w : World) (hx : RI .u64 w (some ad) [12]) : Rd 163 #[.slice (some ad) 1 c] w (.int .u64 12) := by
  refine Rd.of_same fun q => ?_
  obtain ⟨ad', h1, hc⟩ := hx.drewN q 0 (by simp)
  cases h1
  have c0 : (w.drewN q).cell? (ad.add 0) = some (.int .u64 12) := hc
  have c1 : (w.drewN q).cell? ad = some (.int .u64 12) := by rw [addr_zero] at c0; exact c0
  clear hx hc
  go_enter Tryz.func163, Tryz.ntmps163
  go_wp2_with fail
  refine wp_loop_rounds 2 ?_
  rw [rounds_succ]
  go_wp2_with fail
  rw [rounds_succ]
  go_wp2_with fail
  go_ret
  exact ⟨rfl, rfl⟩
set_option maxRecDepth 100000 in
set_option maxHeartbeats 2000000 in
theorem eFits_12 (g a b c pa pb pc ga gb gc s t m q0 q1 : Nat) (w : World) (h : Tr w g a b c pa pb pc ga gb gc s t m q0 q1) :
    Calls Tryz.prog 222 #[.pointer (some ⟨g, 0, none⟩), .int .i64 1, .int .u64 12, .int .u64 12, .bool false] w fun e w' => e = .returned (.bool true) ∧ Below w.heap.size w w' := by
  have C1 := (show Rd 257 #[.int .u64 12, .int .u64 12] w (.tuple #[.int .u64 0, .int .u64 144]) from Times_rd 12 12 (by decide) (by decide) w)
  have C2 := Lib.hid fun W => (show Calls Tryz.prog 174 #[.agg #[.int .u64 144, .int .u64 0, .int .u64 0], .int .u64 1] W fun e w' => e = .returned (.tuple #[.agg #[.int .u64 144, .int .u64 0, .int .u64 0], .int .u64 0]) ∧ Below W.heap.size W w' from by
    have h := Scale_1 144 1 (by decide) (by decide) W
    rw [lo_small (by decide), hi_small (by decide)] at h
    exact h)
  have PR := Lib.hid fun (W : World) (k : Below w.heap.size w W) => Product_any g a b c s t m q0 q1 W (h.bl.below k h.bl.lt)
  have CM := Lib.hid fun (W : World) => (show Calls Tryz.prog 259 #[.agg #[.int .u64 144, .int .u64 0, .int .u64 0], .agg #[.int .u64 q0, .int .u64 q1, .int .u64 0]] W fun e w' => e = .returned (.int .i64 (-1)) ∧ Below W.heap.size W w' from Compare_lt 144 0 q0 q1 0 h.hq W)
  clear h
  go_enter Tryz.func222, Tryz.ntmps222
  go_wp2_with fail
  with_reducible refine C1.now.mono ?_
  rintro e_ w_ ⟨rfl, k1, rfl⟩
  have B1 := Lib.hid (below_drewN (Below.refl w.heap.size w) k1)
  go_wp2_with fail
  refine (C2.out _).mono ?_
  rintro e w2 ⟨rfl, hb2⟩
  have B2 := Lib.hid (below_then B1.out B1.out.size hb2)
  clear hb2
  go_wp2_with fail
  have hz := (Below.refl w2.heap.size w2).alloc (Nat.le_refl _) (.cells #[.int .u64 144, .int .u64 0, .int .u64 0] 252)
  have B3 := Lib.hid (below_then B2.out B2.out.size hz)
  have K3 := Lib.hid (Blk.new w2 252 #[.int .u64 144, .int .u64 0, .int .u64 0])
  clear hz
  generalize w2.alloc (.cells #[.int .u64 144, .int .u64 0, .int .u64 0] 252) = W3 at *
  have hS : W3.cell? ⟨w2.heap.size, 0, none⟩ = some (.int .u64 144) ∧ W3.cell? ⟨w2.heap.size, 1, none⟩ = some (.int .u64 0) ∧ W3.cell? ⟨w2.heap.size, 2, none⟩ = some (.int .u64 0) := ⟨K3.out.cell 0, K3.out.cell 1, K3.out.cell 2⟩
  have KEEP := Lib.hid fun (Y : World) (h : Below W3.heap.size W3 Y) => (show Y.cell? ⟨w2.heap.size, 0, none⟩ = some (.int .u64 144) ∧ Y.cell? ⟨w2.heap.size, 1, none⟩ = some (.int .u64 0) ∧ Y.cell? ⟨w2.heap.size, 2, none⟩ = some (.int .u64 0) from ⟨bcell h hS.1, bcell h hS.2.1, bcell h hS.2.2⟩)
  have PR3 := Lib.hid (PR.out W3.drew B3.out.drew)
  go_region_held3 (fun W' => W'.cell? ⟨w2.heap.size, 0, none⟩ = some (.int .u64 144) ∧ W'.cell? ⟨w2.heap.size, 1, none⟩ = some (.int .u64 0) ∧ W'.cell? ⟨w2.heap.size, 2, none⟩ = some (.int .u64 0)) (first | exact hS | exact hT | exact hU | go_keep)
    (first
    | (go_at_call 260; refine PR3.out.mono ?_; rintro e w4 ⟨rfl, hb4⟩; (have hb4' := (Below.refl W3.heap.size W3).drew.trans hb4); (have hT := KEEP.out _ hb4'); (have B4 := Lib.hid hb4'); clear hb4 hb4')
    | (go_at_call 259; refine (CM.out _).mono ?_; rintro e w5 ⟨rfl, hb5⟩; (have hb5' := below_then B4.out B4.out.size hb5); (have hU := KEEP.out _ hb5'); (have B5 := Lib.hid hb5'); clear hb5 hb5'))
  have BF := Lib.hid (below_then B3.out B3.out.size B5.out)
  clear hS hT hU
  go_wp2_with fail
  go_ret
  exact ⟨rfl, BF.out⟩
set_option maxRecDepth 100000 in
set_option maxHeartbeats 2000000 in
theorem eCheck_12 (g a b c pa pb pc ga gb gc s t m q0 q1 : Nat) (w : World) (h : Tr w g a b c pa pb pc ga gb gc s t m q0 q1) :
    Calls Tryz.prog 162 #[.pointer (some ⟨g, 0, none⟩), .int .i64 1, .int .i64 1, .int .u64 12, .int .u64 12, .bool false] w fun e w' => e = .returned (.int .i64 0) ∧ Below w.heap.size w w' := by
  obtain ⟨T0, T1, T2⟩ := tField_rd g a b c s t m q0 q1 w h.bl
  have dv : ∀ p, divs p 1 = true := fun p => divs_iff.2 ⟨by decide, by simp [Nat.mod_one]⟩
  have DA := fDivides_rd a pa ga 1 w h.ha.fd (by decide)
  have DB := fDivides_rd b pb gb 1 w h.hb.fd (by decide)
  have DC := fDivides_rd c pc gc 1 w h.hc.fd (by decide)
  rw [dv] at DA DB DC
  have PD := Pad_rd1 w
  have FI := Lib.hid fun (W : World) (k : Below w.heap.size w W) => eFits_12 g a b c pa pb pc ga gb gc s t m q0 q1 W (h.below k)
  clear h dv
  go_enter Tryz.func162, Tryz.ntmps162
  go_wp2_with fail
  refine wp_loop_rounds 4 ?_
  rw [rounds_succ]
  go_wp2_with fail
  with_reducible refine T0.now.mono ?_
  rintro e_ w_ ⟨rfl, k1, rfl⟩
  go_wp2_with fail
  with_reducible refine (Rd.go (PD) _).mono ?_
  rintro e_ w_ ⟨rfl, k2, rfl⟩
  go_wp2_with fail
  with_reducible refine (Rd.go (DA) _).mono ?_
  rintro e_ w_ ⟨rfl, k3, rfl⟩
  go_wp2_with fail
  rw [rounds_succ]
  go_wp2_with fail
  with_reducible refine (Rd.go (T1) _).mono ?_
  rintro e_ w_ ⟨rfl, k4, rfl⟩
  go_wp2_with fail
  with_reducible refine (Rd.go (PD) _).mono ?_
  rintro e_ w_ ⟨rfl, k5, rfl⟩
  go_wp2_with fail
  with_reducible refine (Rd.go (DB) _).mono ?_
  rintro e_ w_ ⟨rfl, k6, rfl⟩
  go_wp2_with fail
  rw [rounds_succ]
  go_wp2_with fail
  with_reducible refine (Rd.go (T2) _).mono ?_
  rintro e_ w_ ⟨rfl, k7, rfl⟩
  go_wp2_with fail
  with_reducible refine (Rd.go (PD) _).mono ?_
  rintro e_ w_ ⟨rfl, k8, rfl⟩
  go_wp2_with fail
  with_reducible refine (Rd.go (DC) _).mono ?_
  rintro e_ w_ ⟨rfl, k9, rfl⟩
  go_wp2_with fail
  rw [rounds_succ]
  have B1 := Lib.hid (below_drewN (Below.refl w.heap.size w) (k1 + k2 + k3 + k4 + k5 + k6 + k7 + k8 + k9))
  go_wp2_with fail
  refine (FI.out _ B1.out).mono ?_
  rintro e w2 ⟨rfl, hb2⟩
  have B2 := Lib.hid (below_then B1.out B1.out.size hb2)
  clear hb2
  go_wp2_with fail
  go_ret
  exact ⟨rfl, B2.out⟩
set_option maxRecDepth 100000 in
set_option maxHeartbeats 2000000 in
theorem rests_12 (gf p g : Nat) (ad : Addr) (c : Nat) (w : World) (hf : FU w gf p g) (hx : RI .u64 w (some ad) [12]) :
    Calls Tryz.prog 223 #[.pointer (some ⟨gf, 0, none⟩), .slice (some ad) 1 c, .func (.func 165) #[] #[]] w fun e w' => ∃ g', e = .returned (.slice (some ⟨g', 0, none⟩) 1 1) ∧ One w w' 12 g' 1 := by
  have CR := Lib.hid fun (W : World) (k : Below w.heap.size w W) => (show Rd 165 #[.pointer (some ⟨gf, 0, none⟩), .int .u64 12] W (.int .u64 12) from rest_rd gf p g 12 W (hf.fd.below k) (by have := hf.big; omega))
  have HX := Lib.hid hx
  clear hf hx
  go_enter Tryz.func223, Tryz.ntmps223
  go_wp2_with (refine wpList_makeI rfl (.tmp 11) (.tmp 11) 26 rfl w.heap.size 22 .u64 8 Tryz.underlying26 info22 (by decide) .i64 .i64 1 rfl rfl (by omega) (Nat.le_refl _) ?_; intro w1 ho1 hb1 hs1; have HO1 := Lib.hid (show OI .u64 22 w1 w.heap.size (.slice (some ⟨w.heap.size, 0, none⟩) 1 1) [0] from ho1); have HB1 := Lib.hid hb1; have HS1 := Lib.hid hs1; clear ho1 hb1 hs1)
  obtain ⟨ad', h1, hc⟩ := (HX.out.below HB1.out) 0 (by simp)
  cases h1
  have c0 : w1.cell? (ad.add 0) = some (.int .u64 12) := hc
  have c1 : w1.cell? ad = some (.int .u64 12) := by rw [addr_zero] at c0; exact c0
  have o0 : w1.cell? ⟨w.heap.size, 0, none⟩ = some (.int .u64 0) := (show OI .u64 22 w1 w.heap.size (.slice (some ⟨w.heap.size, 0, none⟩) [(0 : Int)].length 1) [0] from HO1.out).cellAt (i := 0) (by simp)
  have f0 : w1.frozen? ⟨w.heap.size, 0, none⟩ = false := OI.frozenAt rfl HO1.out 0
  clear hc
  refine wp_loop_rounds 2 ?_
  rw [rounds_succ]
  go_wp2_with fail
  with_reducible refine (CR.out w1 HB1.out).now.mono ?_
  rintro e_ w_ ⟨rfl, k2, rfl⟩
  have o1 : (w1.drewN k2).cell? ⟨w.heap.size, 0, none⟩ = some (.int .u64 0) := o0
  have f1 : (w1.drewN k2).frozen? ⟨w.heap.size, 0, none⟩ = false := f0
  go_wp2_with fail
  rw [rounds_succ]
  have HO2 := Lib.hid (OI.stored (n := 1) rfl (OI.drewN HO1.out k2) 0 12)
  have HB2 := Lib.hid ((below_drewN HB1.out k2).setCell (p := ⟨w.heap.size, 0, none⟩) (Nat.le_refl _) (.int .u64 12))
  clear c0 c1 o0 f0 o1 f1
  go_wp2_with fail
  go_ret
  exact ⟨_, rfl, ⟨HO2.out, HB2.out⟩⟩
theorem info252 : (Tryz.prog.info? 252).map (fun i => (i.zero, i.size, i.bytes)) = some (some (.agg #[.int .u64 0, .int .u64 0, .int .u64 0]), 3, 24) := by kernel_rfl
set_option maxRecDepth 100000 in
theorem wpList_make3 {w : World} {ops : Array Oper} {rest : List Oper} {o : Oper} {a : Act} {Q : Exit → Act → World → Prop} (hg : o.guard = none) (l c : Operand) (hop : o.op = Op.makeSlice 197 l c) (kl kc : IntKind) (hl : a.eval l = .int kl 1) (hc : a.eval c = .int kc 1)
    (h : ∀ w', Blk w' w.heap.size 252 #[.int .u64 0, .int .u64 0, .int .u64 0] → Below w.heap.size w w' → wpList Tryz.prog ops Q rest (a.put o.dst (.slice (some ⟨w.heap.size, 0, none⟩) 1 1)) w') : wpList Tryz.prog ops Q (o :: rest) a w := by
  obtain ⟨i0, h1, h2, h3, h4⟩ := info_parts info252
  refine wpList_make_full w hg l c 197 hop w.heap.size 252 i0 _ 3 Tryz.underlying197 h1 h2 h3 kl kc 1 1 1 hl hc rfl rfl (by rw [h4]; decide) (by decide) (Nat.le_refl _) (fun w' hown hgr => ?_)
  refine h w' ?_ ((Below.refl _ _).grown hgr (Nat.le_refl _) (fun _ hk => by cases hk))
  rcases hown.2 with ⟨e, _⟩ | ⟨g, cap, cur, e, _, hh, _, _, hcs, htk⟩
  · cases e
  · injection e with e1 _ e2
    injection e1 with e1
    injection e1 with e1
    subst e1
    subst e2
    have h5 : cur = #[.int .u64 0, .int .u64 0, .int .u64 0] := by
      apply Array.toList_inj.1
      rw [List.take_of_length_le (by rw [Array.length_toList, hcs]; exact Nat.le_refl _)] at htk
      rw [htk]
      kernel_rfl
    subst h5
    exact hh
set_option maxRecDepth 100000 in
set_option maxHeartbeats 4000000 in
theorem join_12 (g a b c pa pb pc ga gb gc s t m q0 q1 : Nat) (ad bd : Addr) (ca cb : Nat) (w : World) (h : Tr w g a b c pa pb pc ga gb gc s t m q0 q1) (hx : RI .u64 w (some ad) [12]) (hy : RI .u64 w (some bd) [12]) :
    Calls Tryz.prog 164 #[.pointer (some ⟨g, 0, none⟩), .slice (some ad) 1 ca, .slice (some bd) 1 cb, .func (.func 165) #[] #[]] w fun e w' => ∃ gj, e = .returned (.slice (some ⟨gj, 0, none⟩) 1 1) ∧ Blk w' gj 252 #[.int .u64 144, .int .u64 0, .int .u64 0] ∧ Below w.heap.size w w' := by
  have HT := Lib.hid h
  have HX := Lib.hid hx
  have HY := Lib.hid hy
  have LIN := Lib.hid fun (W : World) (gf p g x1 x2 c1 c2 : Nat) (hf : FU W gf p g) (h1 : RI .u64 W (some ⟨x1, 0, none⟩) [12]) (h2 : RI .u64 W (some ⟨x2, 0, none⟩) [12]) => (show Calls Tryz.prog 18 #[.pointer (some ⟨gf, 0, none⟩), .slice (some ⟨x1, 0, none⟩) 1 c1, .slice (some ⟨x2, 0, none⟩) 1 c2] W (fun e w' => ∃ g' c', e = .returned (.tuple #[.slice (some ⟨g', 0, none⟩) 1 c', .int .i64 0]) ∧ w'.cell? ⟨g', 0, none⟩ = some (.int .u64 144) ∧ W.heap.size ≤ g' ∧ Below W.heap.size W w') from by
    have hb := hf.big
    have h := Linear_1 gf p g ⟨x1, 0, none⟩ ⟨x2, 0, none⟩ c1 c2 12 12 W hf.fd hf.gR h1 h2 (by omega) (by omega) hf.one
    have e : ((12 * 12 % p : Nat) : Int) = 144 := by rw [Nat.mod_eq_of_lt (by omega)]; rfl
    simp only [e] at h
    exact h)
  have FF := Lib.hid fun (W : World) (h : Tr W g a b c pa pb pc ga gb gc s t m q0 q1) => tField_rd g a b c s t m q0 q1 W h.bl
  have RES := Lib.hid fun (W : World) (gf p g : Nat) (ad : Addr) (cc : Nat) (hf : FU W gf p g) (hx : RI .u64 W (some ad) [12]) => rests_12 gf p g ad cc W hf hx
  have JN := Lib.hid fun (W : World) (h : Tr W g a b c pa pb pc ga gb gc s t m q0 q1) => gJoin_same g a b c pa pb pc ga gb gc s t m q0 q1 144 W h.ha.fd h.hb.fd h.hc.fd h.bl h.hs h.ht h.hm h.ha.big h.hb.big h.hc.big
  have B1 := Lib.hid ((Below.refl w.heap.size w).alloc (Nat.le_refl _) (.cells #[.slice none 0 0, .slice none 0 0, .slice none 0 0] 295))
  have K1 := Lib.hid (Blk.new w 295 #[.slice none 0 0, .slice none 0 0, .slice none 0 0])
  clear h hx hy
  go_enter Tryz.func164, Tryz.ntmps164
  go_wp2_with fail
  generalize w.alloc (.cells #[.slice none 0 0, .slice none 0 0, .slice none 0 0] 295) = W1 at *
  have T1 := Lib.hid (HT.out.below B1.out)
  refine wp_loop_rounds 4 ?_
  rw [rounds_succ]
  go_wp2_with fail
  with_reducible refine (FF.out W1 T1.out).1.now.mono ?_
  rintro e_ w_ ⟨rfl, k0, rfl⟩
  have D0 := Lib.hid (below_drewN (Below.refl W1.heap.size W1) k0)
  have BD0 := Lib.hid (below_then B1.out B1.out.size D0.out)
  go_wp2_with fail
  refine (RES.out _ _ _ _ ad ca (T1.out.ha.below D0.out) (HX.out.below BD0.out)).mono ?_
  rintro e x0 ⟨ra0, rfl, oa0⟩
  have OA0 := Lib.hid oa0
  clear oa0
  have BX0 := Lib.hid (below_then BD0.out BD0.out.size OA0.out.b)
  go_wp2_with fail
  refine (RES.out _ _ _ _ bd cb ((T1.out.ha.below D0.out).below OA0.out.b) (HY.out.below BX0.out)).mono ?_
  rintro e y0 ⟨rb0, rfl, ob0⟩
  have OB0 := Lib.hid ob0
  clear ob0
  have BY0 := Lib.hid (below_then BX0.out BX0.out.size OB0.out.b)
  go_wp2_with fail
  refine (LIN.out _ _ _ _ _ _ _ _ (((T1.out.ha.below D0.out).below OA0.out.b).below OB0.out.b) (OA0.out.then OB0.out.b).ri OB0.out.ri).mono ?_
  rintro e z0 ⟨r0, l0, rfl, hr0, hg0, hz0⟩
  have BZ0 := Lib.hid (below_then BY0.out BY0.out.size hz0)
  have DZ0 := Lib.hid (below_then (below_then (below_then D0.out D0.out.size OA0.out.b) (Nat.le_trans D0.out.size OA0.out.b.size) OB0.out.b) (Nat.le_trans (Nat.le_trans D0.out.size OA0.out.b.size) OB0.out.b.size) hz0)
  have KZ0 := Lib.hid (K1.out.below DZ0.out K1.out.lt)
  have TZ0 := Lib.hid (T1.out.below DZ0.out)
  have ng0 : w.heap.size < r0 := by have h1 := K1.out.lt; have h2 := D0.out.size; have h3 := OA0.out.b.size; have h4 := OB0.out.b.size; omega
  have HR0 := Lib.hid hr0
  have c0 := KZ0.out.cell 0
  have f0 := KZ0.out.frozen 0
  clear hr0 hg0 hz0 D0 BD0 OA0 BX0 OB0 BY0
  go_wp2_with fail
  have KW0 := Lib.hid (show Blk (z0.setCell ⟨w.heap.size, 0, none⟩ (.slice (some ⟨r0, 0, none⟩) 1 l0)) w.heap.size 295 #[.slice (some ⟨r0, 0, none⟩) 1 l0, .slice none 0 0, .slice none 0 0] from by
    have h := KZ0.out.set_ 0 (.slice (some ⟨r0, 0, none⟩) 1 l0)
    simp only [List.setIfInBounds_toArray, List.set_cons_zero, List.set_cons_succ] at h
    exact h)
  have FZ0 := Lib.hid (Fr.setCell (S := fun j => j = w.heap.size) (p := ⟨w.heap.size, 0, none⟩) rfl z0 (.slice (some ⟨r0, 0, none⟩) 1 l0))
  have BW0 := Lib.hid (((Fr.of_below (fun _ => False) BZ0.out).or' FZ0.out (U := fun j => w.heap.size ≤ j) (fun _ _ h => h.elim) (fun j _ h => by omega)).to_below (Nat.le_refl _) (fun j h1 h2 => by omega))
  have TW0 := Lib.hid (HT.out.below BW0.out)
  have RW0_0 := Lib.hid (FZ0.out.cell HR0.out (show ¬ r0 = w.heap.size by omega))
  clear c0 f0 KZ0 TZ0 BZ0 DZ0 FZ0 HR0 T1 K1 B1
  generalize z0.setCell ⟨w.heap.size, 0, none⟩ (.slice (some ⟨r0, 0, none⟩) 1 l0) = W2 at *
  rw [rounds_succ]
  go_wp2_with fail
  with_reducible refine (FF.out W2 TW0.out).2.1.now.mono ?_
  rintro e_ w_ ⟨rfl, k1, rfl⟩
  have D1 := Lib.hid (below_drewN (Below.refl W2.heap.size W2) k1)
  have BD1 := Lib.hid (below_then BW0.out BW0.out.size D1.out)
  go_wp2_with fail
  refine (RES.out _ _ _ _ ad ca (TW0.out.hb.below D1.out) (HX.out.below BD1.out)).mono ?_
  rintro e x1 ⟨ra1, rfl, oa1⟩
  have OA1 := Lib.hid oa1
  clear oa1
  have BX1 := Lib.hid (below_then BD1.out BD1.out.size OA1.out.b)
  go_wp2_with fail
  refine (RES.out _ _ _ _ bd cb ((TW0.out.hb.below D1.out).below OA1.out.b) (HY.out.below BX1.out)).mono ?_
  rintro e y1 ⟨rb1, rfl, ob1⟩
  have OB1 := Lib.hid ob1
  clear ob1
  have BY1 := Lib.hid (below_then BX1.out BX1.out.size OB1.out.b)
  go_wp2_with fail
  refine (LIN.out _ _ _ _ _ _ _ _ (((TW0.out.hb.below D1.out).below OA1.out.b).below OB1.out.b) (OA1.out.then OB1.out.b).ri OB1.out.ri).mono ?_
  rintro e z1 ⟨r1, l1, rfl, hr1, hg1, hz1⟩
  have BZ1 := Lib.hid (below_then BY1.out BY1.out.size hz1)
  have DZ1 := Lib.hid (below_then (below_then (below_then D1.out D1.out.size OA1.out.b) (Nat.le_trans D1.out.size OA1.out.b.size) OB1.out.b) (Nat.le_trans (Nat.le_trans D1.out.size OA1.out.b.size) OB1.out.b.size) hz1)
  have KZ1 := Lib.hid (KW0.out.below DZ1.out KW0.out.lt)
  have TZ1 := Lib.hid (TW0.out.below DZ1.out)
  have ng1 : w.heap.size < r1 := by have h1 := KW0.out.lt; have h2 := D1.out.size; have h3 := OA1.out.b.size; have h4 := OB1.out.b.size; omega
  have HR1 := Lib.hid hr1
  have c1 := KZ1.out.cell 1
  have f1 := KZ1.out.frozen 1
  clear hr1 hg1 hz1 D1 BD1 OA1 BX1 OB1 BY1
  go_wp2_with fail
  have KW1 := Lib.hid (show Blk (z1.setCell ⟨w.heap.size, 1, none⟩ (.slice (some ⟨r1, 0, none⟩) 1 l1)) w.heap.size 295 #[.slice (some ⟨r0, 0, none⟩) 1 l0, .slice (some ⟨r1, 0, none⟩) 1 l1, .slice none 0 0] from by
    have h := KZ1.out.set_ 1 (.slice (some ⟨r1, 0, none⟩) 1 l1)
    simp only [List.setIfInBounds_toArray, List.set_cons_zero, List.set_cons_succ] at h
    exact h)
  have FZ1 := Lib.hid (Fr.setCell (S := fun j => j = w.heap.size) (p := ⟨w.heap.size, 1, none⟩) rfl z1 (.slice (some ⟨r1, 0, none⟩) 1 l1))
  have BW1 := Lib.hid (((Fr.of_below (fun _ => False) BZ1.out).or' FZ1.out (U := fun j => w.heap.size ≤ j) (fun _ _ h => h.elim) (fun j _ h => by omega)).to_below (Nat.le_refl _) (fun j h1 h2 => by omega))
  have TW1 := Lib.hid (HT.out.below BW1.out)
  have RW1_1 := Lib.hid (FZ1.out.cell HR1.out (show ¬ r1 = w.heap.size by omega))
  have RW0_1 := Lib.hid (FZ1.out.cell (bcell DZ1.out RW0_0.out) (show ¬ r0 = w.heap.size by omega))
  clear c1 f1 KZ1 TZ1 BZ1 DZ1 FZ1 HR1 TW0 KW0 BW0
  generalize z1.setCell ⟨w.heap.size, 1, none⟩ (.slice (some ⟨r1, 0, none⟩) 1 l1) = W3 at *
  rw [rounds_succ]
  go_wp2_with fail
  with_reducible refine (FF.out W3 TW1.out).2.2.now.mono ?_
  rintro e_ w_ ⟨rfl, k2, rfl⟩
  have D2 := Lib.hid (below_drewN (Below.refl W3.heap.size W3) k2)
  have BD2 := Lib.hid (below_then BW1.out BW1.out.size D2.out)
  go_wp2_with fail
  refine (RES.out _ _ _ _ ad ca (TW1.out.hc.below D2.out) (HX.out.below BD2.out)).mono ?_
  rintro e x2 ⟨ra2, rfl, oa2⟩
  have OA2 := Lib.hid oa2
  clear oa2
  have BX2 := Lib.hid (below_then BD2.out BD2.out.size OA2.out.b)
  go_wp2_with fail
  refine (RES.out _ _ _ _ bd cb ((TW1.out.hc.below D2.out).below OA2.out.b) (HY.out.below BX2.out)).mono ?_
  rintro e y2 ⟨rb2, rfl, ob2⟩
  have OB2 := Lib.hid ob2
  clear ob2
  have BY2 := Lib.hid (below_then BX2.out BX2.out.size OB2.out.b)
  go_wp2_with fail
  refine (LIN.out _ _ _ _ _ _ _ _ (((TW1.out.hc.below D2.out).below OA2.out.b).below OB2.out.b) (OA2.out.then OB2.out.b).ri OB2.out.ri).mono ?_
  rintro e z2 ⟨r2, l2, rfl, hr2, hg2, hz2⟩
  have BZ2 := Lib.hid (below_then BY2.out BY2.out.size hz2)
  have DZ2 := Lib.hid (below_then (below_then (below_then D2.out D2.out.size OA2.out.b) (Nat.le_trans D2.out.size OA2.out.b.size) OB2.out.b) (Nat.le_trans (Nat.le_trans D2.out.size OA2.out.b.size) OB2.out.b.size) hz2)
  have KZ2 := Lib.hid (KW1.out.below DZ2.out KW1.out.lt)
  have TZ2 := Lib.hid (TW1.out.below DZ2.out)
  have ng2 : w.heap.size < r2 := by have h1 := KW1.out.lt; have h2 := D2.out.size; have h3 := OA2.out.b.size; have h4 := OB2.out.b.size; omega
  have HR2 := Lib.hid hr2
  have c2 := KZ2.out.cell 2
  have f2 := KZ2.out.frozen 2
  clear hr2 hg2 hz2 D2 BD2 OA2 BX2 OB2 BY2
  go_wp2_with fail
  have KW2 := Lib.hid (show Blk (z2.setCell ⟨w.heap.size, 2, none⟩ (.slice (some ⟨r2, 0, none⟩) 1 l2)) w.heap.size 295 #[.slice (some ⟨r0, 0, none⟩) 1 l0, .slice (some ⟨r1, 0, none⟩) 1 l1, .slice (some ⟨r2, 0, none⟩) 1 l2] from by
    have h := KZ2.out.set_ 2 (.slice (some ⟨r2, 0, none⟩) 1 l2)
    simp only [List.setIfInBounds_toArray, List.set_cons_zero, List.set_cons_succ] at h
    exact h)
  have FZ2 := Lib.hid (Fr.setCell (S := fun j => j = w.heap.size) (p := ⟨w.heap.size, 2, none⟩) rfl z2 (.slice (some ⟨r2, 0, none⟩) 1 l2))
  have BW2 := Lib.hid (((Fr.of_below (fun _ => False) BZ2.out).or' FZ2.out (U := fun j => w.heap.size ≤ j) (fun _ _ h => h.elim) (fun j _ h => by omega)).to_below (Nat.le_refl _) (fun j h1 h2 => by omega))
  have TW2 := Lib.hid (HT.out.below BW2.out)
  have RW2_2 := Lib.hid (FZ2.out.cell HR2.out (show ¬ r2 = w.heap.size by omega))
  have RW0_2 := Lib.hid (FZ2.out.cell (bcell DZ2.out RW0_1.out) (show ¬ r0 = w.heap.size by omega))
  have RW1_2 := Lib.hid (FZ2.out.cell (bcell DZ2.out RW1_1.out) (show ¬ r1 = w.heap.size by omega))
  clear c2 f2 KZ2 TZ2 BZ2 DZ2 FZ2 HR2 TW1 KW1 BW1
  generalize z2.setCell ⟨w.heap.size, 2, none⟩ (.slice (some ⟨r2, 0, none⟩) 1 l2) = W4 at *
  rw [rounds_succ]
  go_wp2_with (refine wpList_make3 rfl (.tmp 41) (.tmp 41) rfl .i64 .i64 rfl rfl ?_; intro V hv hb; have KV := Lib.hid hv; have BV := Lib.hid hb; clear hv hb)
  have KB := Lib.hid (KW2.out.below BV.out KW2.out.lt)
  have TV := Lib.hid (TW2.out.below BV.out)
  have BQ := Lib.hid (below_then BW2.out BW2.out.size BV.out)
  have hS : ((V.cell? ⟨w.heap.size, 0, none⟩ = some (.slice (some ⟨r0, 0, none⟩) 1 l0) ∧ V.cell? ⟨w.heap.size, 1, none⟩ = some (.slice (some ⟨r1, 0, none⟩) 1 l1) ∧ V.cell? ⟨w.heap.size, 2, none⟩ = some (.slice (some ⟨r2, 0, none⟩) 1 l2)) ∧ V.cell? ⟨r0, 0, none⟩ = some (.int .u64 144) ∧ V.cell? ⟨r1, 0, none⟩ = some (.int .u64 144) ∧ V.cell? ⟨r2, 0, none⟩ = some (.int .u64 144)) := ⟨⟨KB.out.cell 0, KB.out.cell 1, KB.out.cell 2⟩, bcell BV.out RW0_2.out, bcell BV.out RW1_2.out, bcell BV.out RW2_2.out⟩
  have hlt0 : r0 < W4.heap.size := World.block_lt_of_cell? _ _ RW0_2.out
  have hlt1 : r1 < W4.heap.size := World.block_lt_of_cell? _ _ RW1_2.out
  have hlt2 : r2 < W4.heap.size := World.block_lt_of_cell? _ _ RW2_2.out
  have hlt3 : w.heap.size < W4.heap.size := KW2.out.lt
  have KEEP := Lib.hid fun (Y : World) (h : Below V.heap.size V Y) => (show ((Y.cell? ⟨w.heap.size, 0, none⟩ = some (.slice (some ⟨r0, 0, none⟩) 1 l0) ∧ Y.cell? ⟨w.heap.size, 1, none⟩ = some (.slice (some ⟨r1, 0, none⟩) 1 l1) ∧ Y.cell? ⟨w.heap.size, 2, none⟩ = some (.slice (some ⟨r2, 0, none⟩) 1 l2)) ∧ Y.cell? ⟨r0, 0, none⟩ = some (.int .u64 144) ∧ Y.cell? ⟨r1, 0, none⟩ = some (.int .u64 144) ∧ Y.cell? ⟨r2, 0, none⟩ = some (.int .u64 144)) from ⟨⟨bcell h hS.1.1, bcell h hS.1.2.1, bcell h hS.1.2.2⟩, bcell h hS.2.1, bcell h hS.2.2.1, bcell h hS.2.2.2⟩)
  have JV := Lib.hid (JN.out V.drew (TV.out.below (Below.refl _ _).drew))
  clear KW2 TW2 BW2 RW0_2 RW1_2 RW2_2 RW0_1 RW1_1 RW0_0 FF LIN RES JN HX HY
  refine wp_loop_rounds 2 ?_
  rw [rounds_succ]
  go_wp2_with fail
  go_region_held3 (fun W' => ((W'.cell? ⟨w.heap.size, 0, none⟩ = some (.slice (some ⟨r0, 0, none⟩) 1 l0) ∧ W'.cell? ⟨w.heap.size, 1, none⟩ = some (.slice (some ⟨r1, 0, none⟩) 1 l1) ∧ W'.cell? ⟨w.heap.size, 2, none⟩ = some (.slice (some ⟨r2, 0, none⟩) 1 l2)) ∧ W'.cell? ⟨r0, 0, none⟩ = some (.int .u64 144) ∧ W'.cell? ⟨r1, 0, none⟩ = some (.int .u64 144) ∧ W'.cell? ⟨r2, 0, none⟩ = some (.int .u64 144))) (first | exact hS | exact hT | exact hV | go_keep)
    ((go_at_call 224; refine JV.out.mono ?_; rintro e v2 ⟨rfl, hb2⟩; (have hb2' := (Below.refl V.heap.size V).drew.trans hb2); (have hT := KEEP.out _ hb2'); (have B2 := Lib.hid hb2'); (have K2 := Lib.hid (KV.out.below hb2' KV.out.lt)); (have y0 := K2.out.cell 0); (have y1 := K2.out.cell 1); (have y2 := K2.out.cell 2); (have f0 := K2.out.frozen 0); (have f1 := K2.out.frozen 1); (have f2 := K2.out.frozen 2);
      (have HP := Lib.hid (put3' K2.out (.int .u64 144) (.int .u64 0) (.int .u64 0))); (have hV : (((((v2.setCell ⟨W4.heap.size, 0, none⟩ (.int .u64 144)).setCell ⟨W4.heap.size, 1, none⟩ (.int .u64 0)).setCell ⟨W4.heap.size, 2, none⟩ (.int .u64 0)).cell? ⟨w.heap.size, 0, none⟩ = some (.slice (some ⟨r0, 0, none⟩) 1 l0) ∧ (((v2.setCell ⟨W4.heap.size, 0, none⟩ (.int .u64 144)).setCell ⟨W4.heap.size, 1, none⟩ (.int .u64 0)).setCell ⟨W4.heap.size, 2, none⟩ (.int .u64 0)).cell? ⟨w.heap.size, 1, none⟩ = some (.slice (some ⟨r1, 0, none⟩) 1 l1) ∧ (((v2.setCell ⟨W4.heap.size, 0, none⟩ (.int .u64 144)).setCell ⟨W4.heap.size, 1, none⟩ (.int .u64 0)).setCell ⟨W4.heap.size, 2, none⟩ (.int .u64 0)).cell? ⟨w.heap.size, 2, none⟩ = some (.slice (some ⟨r2, 0, none⟩) 1 l2)) ∧ (((v2.setCell ⟨W4.heap.size, 0, none⟩ (.int .u64 144)).setCell ⟨W4.heap.size, 1, none⟩ (.int .u64 0)).setCell ⟨W4.heap.size, 2, none⟩ (.int .u64 0)).cell? ⟨r0, 0, none⟩ = some (.int .u64 144) ∧ (((v2.setCell ⟨W4.heap.size, 0, none⟩ (.int .u64 144)).setCell ⟨W4.heap.size, 1, none⟩ (.int .u64 0)).setCell ⟨W4.heap.size, 2, none⟩ (.int .u64 0)).cell? ⟨r1, 0, none⟩ = some (.int .u64 144) ∧ (((v2.setCell ⟨W4.heap.size, 0, none⟩ (.int .u64 144)).setCell ⟨W4.heap.size, 1, none⟩ (.int .u64 0)).setCell ⟨W4.heap.size, 2, none⟩ (.int .u64 0)).cell? ⟨r2, 0, none⟩ = some (.int .u64 144)) := ⟨⟨HP.out.2.cell hT.1.1 (show ¬ w.heap.size = W4.heap.size by omega), HP.out.2.cell hT.1.2.1 (show ¬ w.heap.size = W4.heap.size by omega), HP.out.2.cell hT.1.2.2 (show ¬ w.heap.size = W4.heap.size by omega)⟩, HP.out.2.cell hT.2.1 (show ¬ r0 = W4.heap.size by omega), HP.out.2.cell hT.2.2.1 (show ¬ r1 = W4.heap.size by omega), HP.out.2.cell hT.2.2.2 (show ¬ r2 = W4.heap.size by omega)⟩); clear hb2 hb2'))
  have KF := Lib.hid HP.out.1
  have BF := Lib.hid (((Fr.of_below (fun _ => False) (below_then BQ.out BQ.out.size B2.out)).or' HP.out.2 (U := fun j => w.heap.size ≤ j) (fun _ _ h => h.elim) (fun j _ h => by omega)).to_below (Nat.le_refl _) (fun j h1 h2 => by omega))
  clear hS hT hV y0 y1 y2 f0 f1 f2
  go_wp2_with fail
  rw [rounds_succ]
  go_wp2_with fail
  go_ret
  exact ⟨_, rfl, KF.out, BF.out⟩
set_option maxRecDepth 100000 in
set_option maxHeartbeats 2000000 in
theorem Unsigned_12 (g a b c pa pb pc ga gb gc s t m q0 q1 : Nat) (ad bd : Addr) (ca cb : Nat) (w : World) (h : Tr w g a b c pa pb pc ga gb gc s t m q0 q1) (hx : RI .u64 w (some ad) [12]) (hy : RI .u64 w (some bd) [12]) :
    Calls Tryz.prog 111 #[.pointer (some ⟨g, 0, none⟩), .slice (some ad) 1 ca, .slice (some bd) 1 cb] w fun e w' => ∃ gj, e = .returned (.tuple #[.slice (some ⟨gj, 0, none⟩) 1 1, .int .i64 0]) ∧ Blk w' gj 252 #[.int .u64 144, .int .u64 0, .int .u64 0] ∧ Below w.heap.size w w' := by
  have M1 := most_12 ad ca w hx
  have M2 := most_12 bd cb w hy
  have CK := Lib.hid fun (W : World) (k : Below w.heap.size w W) => eCheck_12 g a b c pa pb pc ga gb gc s t m q0 q1 W (h.below k)
  have JN := Lib.hid fun (W : World) (k : Below w.heap.size w W) => join_12 g a b c pa pb pc ga gb gc s t m q0 q1 ad bd ca cb W (h.below k) (hx.below k) (hy.below k)
  clear h hx hy
  go_enter Tryz.func111, Tryz.ntmps111
  go_wp2_with fail
  with_reducible refine M1.now.mono ?_
  rintro e_ w_ ⟨rfl, k1, rfl⟩
  go_wp2_with fail
  with_reducible refine (Rd.go (M2) _).mono ?_
  rintro e_ w_ ⟨rfl, k2, rfl⟩
  have B1 := Lib.hid (below_drewN (Below.refl w.heap.size w) (k1 + k2))
  go_wp2_with fail
  refine (CK.out _ B1.out).mono ?_
  rintro e w2 ⟨rfl, hb2⟩
  have B2 := Lib.hid (below_then B1.out B1.out.size hb2)
  clear hb2
  go_wp2_with fail
  refine (JN.out _ B2.out).mono ?_
  rintro e w3 ⟨gj, rfl, hk, hb3⟩
  have HK := Lib.hid hk
  have B3 := Lib.hid (below_then B2.out B2.out.size hb3)
  clear hk hb3
  go_wp2_with fail
  go_ret2
  exact ⟨gj, rfl, HK.out, B3.out⟩
end Go.Proofs.YtpkpadepccneeaaGreatDoor

/- The walks of strconv.FormatUint at base 10 from 100 on, strings.Builder's WriteString into a fresh builder. No condition. -/
namespace Go.Proofs.YtpkpadepccneeaaGreatDoor
set_option linter.unusedVariables false
set_option linter.unusedSimpArgs false
open Go Go.RowKit Go.Shelf Go.Sort Go.Lib
theorem holds_zero0 (w : World) (T : TypeId) (nd : Nat) (hs : nd ≤ 24) : Holds (fun (b : UInt8) => Value.int .u8 (b.toNat : Int)) (w.alloc (.cells Lib.zeros24 T)) w.heap.size 0 (Array.replicate nd (0 : UInt8)) := fun j hj => by
  have hj' : j < nd := by simpa using hj
  refine ⟨?_, World.frozen?_alloc_new _ _ _ _⟩
  rw [World.cell?_alloc_new, Lib.zeros24_at _ (by omega), getElem!_pos _ j hj]
  simp
theorem below_putRow {w V : World} {b o : Nat} {dk : Array UInt8} (h : Below w.heap.size w V) (hb : w.heap.size ≤ b) : Below w.heap.size w (putRow (fun (b : UInt8) => Value.int .u8 (b.toNat : Int)) V b o dk) := by
  refine ⟨h.os, h.tape, h.output, ?_, fun i hi => ?_⟩
  · unfold putRow mapBlock
    simpa using h.size
  · unfold putRow mapBlock
    simp only [Array.getElem?_modify]
    rw [if_neg (by omega)]
    exact h.block i hi
set_option maxHeartbeats 6400000 in
set_option maxRecDepth 100000 in
theorem FormatUint_in (u : Nat) (hu1 : 100 ≤ u) (hu64 : u < 18446744073709551616) (w : World) (htab : Lib.TabIs Tryz.prog w "internal/strconv.uint64pow10" .u64 Lib.pow10Tab) :
    Calls Tryz.prog 227 #[.int .u64 u, .int .i64 10] w fun e w' => e = .returned (.string ⟨(Lib.decDigits u).toArray⟩) ∧ Below w.heap.size w w' := by
  have hnd20 : Lib.nDigits u ≤ 20 := by have := Lib.numDigits_eq u (by omega) hu64; split at this <;> omega
  have hal : Tryz.prog.arrayLen 335 = 24 := by simp [Program.arrayLen, Tryz.underlying335]
  have hsl1 : ∀ W, (Instr.sliceAt 335 (.pointer (some ⟨w.heap.size, 0, none⟩)) none (some (.int .i64 (Lib.nDigits u : Int))) none).run Tryz.prog W = .ok (.slice (some ⟨w.heap.size, 0, none⟩) (Lib.nDigits u) 24) W := fun W => by
    rw [run_sliceAt_array_h W 335 ⟨w.heap.size, 0, none⟩ (by simp [Program.arrayLen, Program.elem, Tryz.underlying335]) .i64 (Lib.nDigits u : Int) (by omega) (by rw [hal]; omega)]
    go_simp
  have hH0 := holds_zero0 w 335 (Lib.nDigits u) (by omega)
  have hfmt := Tryz.internal_strconv_formatBase10 w.heap.size 0 24 u (Array.replicate (Lib.nDigits u) 0) (w.alloc (.cells Lib.zeros24 335)) hH0 (by rw [Array.size_replicate]; exact Lib.lt_pow_nDigits u) hu64 (by rw [Array.size_replicate]; omega)
  rw [Array.size_replicate] at hfmt
  have HH0 := Lib.hid hH0
  have HF := Lib.hid hfmt
  have HN := Lib.hid fun W h => Tryz.internal_strconv_numDigits u (by omega) hu64 W h
  have HT := Lib.hid htab
  have g1 : decide ((u : Int) < 100) = false := decide_eq_false (by omega)
  have g2 : decide (u < 100) = false := decide_eq_false (by omega)
  clear hH0 hal hfmt htab
  go_enter Tryz.func227, Tryz.ntmps227
  go_wp2_with fail
  refine (HN.out _ (Lib.tabIs_alloc HT.out _)).mono ?_
  rintro e w' ⟨rfl, rfl⟩
  go_wp2_with fail
  refine HF.out.mono ?_
  rintro e w' ⟨rfl, k, v', dk, rfl, hF⟩
  have hcv : (convert 243 9 (.slice (some ⟨w.heap.size, 0, none⟩) (Lib.nDigits u) 24)).run Tryz.prog ((putRow (fun (b : UInt8) => Value.int .u8 (b.toNat : Int)) (w.alloc (.cells Lib.zeros24 335)) w.heap.size 0 dk).drewN k) = .ok (.string ⟨(Lib.decDigits u).toArray⟩) ((putRow (fun (b : UInt8) => Value.int .u8 (b.toNat : Int)) (w.alloc (.cells Lib.zeros24 335)) w.heap.size 0 dk).drewN k) := by
    have h := run_convert_bytes_back (P := Tryz.prog) ((putRow (fun (b : UInt8) => Value.int .u8 (b.toNat : Int)) (w.alloc (.cells Lib.zeros24 335)) w.heap.size 0 dk).drewN k) 243 9 5 ⟨w.heap.size, 0, none⟩ 24 (Lib.decDigits u) Tryz.underlying243 Tryz.underlying5 Tryz.underlying9 (fun j hj => by
      rw [Lib.row_is_numeral hF j hj, Lib.add_plain, World.cell?_drewN]
      exact cell?_putRow (fun (b : UInt8) => Value.int .u8 (b.toNat : Int)) _ w.heap.size 0 _ dk HH0.out (by rw [hF.size, Array.size_replicate]) j (by rw [hF.size]; rw [Lib.decDigits_length] at hj; exact hj))
    rw [Lib.decDigits_length] at h
    exact h
  have BB := Lib.hid (below_drewN (below_putRow (o := 0) (dk := dk) ((Below.refl w.heap.size w).alloc (Nat.le_refl _) (.cells Lib.zeros24 335)) (Nat.le_refl w.heap.size)) k)
  clear hF
  go_wp2_with fail
  go_ret
  exact ⟨rfl, BB.out⟩
theorem FormatUint_10 (u : Nat) (hu1 : 100 ≤ u) (hu64 : u < 18446744073709551616) (w : World) (htab : Lib.TabIs Tryz.prog w "internal/strconv.uint64pow10" .u64 Lib.pow10Tab) :
    Calls Tryz.prog 167 #[.int .u64 u, .int .i64 10] w fun e w' => e = .returned (.string ⟨(Lib.decDigits u).toArray⟩) ∧ Below w.heap.size w w' := by
  have C := Lib.hid (FormatUint_in u hu1 hu64 w htab)
  clear htab
  go_enter Tryz.func167, Tryz.ntmps167
  go_wp2_with fail
  with_reducible refine (C.out).mono ?_
  rintro e w1 ⟨rfl, hb⟩
  have HB := Lib.hid hb
  clear hb
  go_wp2_with fail
  go_ret
  exact ⟨rfl, HB.out⟩
theorem size245 : (Tryz.prog.info? 245).map (·.size) = some 2 := by kernel_rfl
set_option maxHeartbeats 1000000 in
set_option maxRecDepth 100000 in
theorem copyCheck_fresh (b : Nat) (w : World) (h0 : w.cell? ⟨b, 0, none⟩ = some (.pointer none)) (hsh : w.shape? b = some (245, 2)) (hfz : w.frozen? ⟨b, 0, none⟩ = false) :
    Calls Tryz.prog 228 #[.pointer (some ⟨b, 0, none⟩)] w fun e w' => e = .returned (.tuple #[]) ∧ w' = w.setCell ⟨b, 0, none⟩ (.pointer (some ⟨b, 0, none⟩)) := by
  obtain ⟨j, hj, hjs⟩ := Option.map_eq_some_iff.1 size245
  go_enter Tryz.func228, Tryz.ntmps228
  go_wp2
  rw [Lib.run_to_unsafe w ⟨b, 0, none⟩ Tryz.underlying242 Tryz.underlying339 hj (by rw [hjs]; decide) hsh (Nat.zero_lt_succ 1)]
  simp only [Result.andThen]
  rw [Oper.upon_value]
  go_wp2
  rw [run_callFunc_extern Tryz.func273 (by kernel_rfl) (by kernel_rfl) (by kernel_rfl) (e := Extern.AbiNoEscape.same) (by kernel_rfl)]
  rw [Lib.run_noEscape]
  simp only [Result.andThen]
  rw [Oper.upon_value]
  go_wp2
  rw [Lib.run_from_unsafe w ⟨b, 0, none⟩ Tryz.underlying339 Tryz.underlying242 hj hsh (by kernel_rfl)]
  simp only [Result.andThen]
  rw [Oper.upon_value]
  go_wp2
  go_end0
  exact ⟨rfl, rfl⟩
theorem info5 : (Tryz.prog.info? 5).map (fun i => (i.zero, i.size, i.bytes)) = some (some (.int .u8 0), 1, 1) := by kernel_rfl
set_option maxHeartbeats 2000000 in
set_option maxRecDepth 100000 in
theorem WriteString_fresh (B b : Nat) (s : ByteArray) (w : World) (h : Lib.BuilderAt 245 5 B b (.pointer none) [] w) (hlen : s.size ≤ 140737488355328) (hBw : B ≤ w.heap.size) :
    Calls Tryz.prog 168 #[.pointer (some ⟨b, 0, none⟩), .string s] w fun e w' => e = .returned (.tuple #[.int .i64 s.size, .nilIface]) ∧ Lib.BuilderAt 245 5 B b (.pointer (some ⟨b, 0, none⟩)) (Lib.strCells s) w' ∧ Below B w w' := by
  obtain ⟨i0, hi, hz0, hz1, hz2⟩ := info_parts info5
  have CC := copyCheck_fresh b w h.cell0 h.shape h.frozen0
  have h1 := h.used (.pointer (some ⟨b, 0, none⟩))
  have hb1 := (Below.refl B w).setCell (p := ⟨b, 0, none⟩) h.1 (.pointer (some ⟨b, 0, none⟩))
  clear h
  go_enter Tryz.func168, Tryz.ntmps168
  go_wp2_with fail
  refine CC.mono ?_
  rintro e w1 ⟨rfl, rfl⟩
  generalize w.setCell ⟨b, 0, none⟩ (.pointer (some ⟨b, 0, none⟩)) = w1 at *
  obtain ⟨hB, v, hbk, hown, hne⟩ := h1
  have c0 : w1.cell? ⟨b, 0, none⟩ = some (.pointer (some ⟨b, 0, none⟩)) := by rw [Lib.cell_of_heap hbk]; rfl
  have c1 : w1.cell? ⟨b, 1, none⟩ = some v := by rw [Lib.cell_of_heap hbk]; rfl
  go_wp2_with (at_builtin; refine Lib.wpList_append_own_string _ rfl _ _ 243 9 rfl B 5 i0 Tryz.underlying243 Tryz.underlying9 hi hz0 hz1 hz2 _ _ _ rfl hown s rfl ?c3 ?c4 ?c5 ?_)
  case c3 => unfold maxLen; simp; omega
  case c4 => simp; omega
  case c5 => have := hb1.size; omega
  intro v' w2 hown' hgrow _
  have hlt : b < w1.heap.size := by
    rcases Nat.lt_or_ge b w1.heap.size with h' | h'
    · exact h'
    · simp [Array.getElem?_eq_none h'] at hbk
  have hb2 : w2.heap[b]? = some (.cells #[.pointer (some ⟨b, 0, none⟩), v] 245 (0, 0)) := by
    rw [hgrow.block b hlt (fun e => hne e.symm)]
    exact hbk
  have d0 : w2.cell? ⟨b, 0, none⟩ = some (.pointer (some ⟨b, 0, none⟩)) := by rw [Lib.cell_of_heap hb2]; rfl
  have d1 : w2.cell? ⟨b, 1, none⟩ = some v := by rw [Lib.cell_of_heap hb2]; rfl
  have f1 : w2.frozen? ⟨b, 1, none⟩ = false := Lib.frozen_of_heap hb2 1
  obtain ⟨ao, n', cap, rfl⟩ : ∃ ao n' cap, v' = .slice ao n' cap := by
    rcases hown'.2 with ⟨hv, _⟩ | ⟨g, cap, cur, hv, _⟩
    · exact ⟨_, _, _, hv⟩
    · exact ⟨_, _, _, hv⟩
  go_wp2
  go_ret2
  refine ⟨rfl, ?_, ?_⟩
  · exact Lib.BuilderAt.put (T := 245) (e := 5) hB hb2 (bs' := Lib.strCells s) (by simpa [Lib.strCells_length] using hown') (by decide)
  · exact (hb1.grown hgrow (by have := hb1.size; omega) (fun k hk => (hown.lt k hk).1)).setCell (p := ⟨b, 1, none⟩) hB _
end Go.Proofs.YtpkpadepccneeaaGreatDoor

/- The walks of long at 12 times 12. No condition. -/
namespace Go.Proofs.YtpkpadepccneeaaGreatDoor
set_option linter.unusedVariables false
set_option linter.unusedSimpArgs false
open Go Go.RowKit Go.Shelf
def s12 : ByteArray := ⟨#[49, 50]⟩
set_option maxRecDepth 100000 in
set_option maxHeartbeats 2000000 in
theorem Good_12 (w : World) : Calls Tryz.prog 61 #[.string ⟨#[49, 50]⟩] w fun e w' => e = .returned (.bool true) ∧ Below w.heap.size w w' := by
  have n0 : ∀ ty, (Instr.next (.pointer (some ⟨w.heap.size, 0, none⟩)) true ty).run Tryz.prog (w.iter ⟨#[49, 50]⟩ 0) = .ok (.tuple #[.bool true, .int .i64 0, .int .i32 49]) (w.iter ⟨#[49, 50]⟩ 1) := fun ty => run_next_ascii (P := Tryz.prog) w ⟨#[49, 50]⟩ 0 ty (by decide) (by decide)
  have n1 : ∀ ty, (Instr.next (.pointer (some ⟨w.heap.size, 0, none⟩)) true ty).run Tryz.prog (w.iter ⟨#[49, 50]⟩ 1) = .ok (.tuple #[.bool true, .int .i64 1, .int .i32 50]) (w.iter ⟨#[49, 50]⟩ 2) := fun ty => run_next_ascii (P := Tryz.prog) w ⟨#[49, 50]⟩ 1 ty (by decide) (by decide)
  have n2 : ∀ ty, (Instr.next (.pointer (some ⟨w.heap.size, 0, none⟩)) true ty).run Tryz.prog (w.iter ⟨#[49, 50]⟩ 2) = .ok (.tuple #[.bool false]) (w.iter ⟨#[49, 50]⟩ 2) := fun ty => run_next_end (P := Tryz.prog) w ⟨#[49, 50]⟩ 2 ty (by decide)
  have i0 : ∀ W, (Instr.index 9 (.string ⟨#[49, 50]⟩) (.int .i64 0)).run Tryz.prog W = .ok (.int .u8 49) W := fun _ => by kernel_rfl
  go_enter Tryz.func61, Tryz.ntmps61
  go_wp2_with fail
  refine wp_loop_rounds 4 ?_
  rw [rounds_succ]
  go_wp2_with fail
  rw [rounds_succ]
  go_wp2_with fail
  rw [rounds_succ]
  go_wp2_with fail
  go_ret
  exact ⟨rfl, (Below.refl w.heap.size w).alloc (Nat.le_refl _) (.stringIter ⟨#[49, 50]⟩ 2)⟩
theorem parse_u12 (w : World) : Calls Tryz.prog 166 #[.string ⟨#[49, 50]⟩, .int .i64 10, .int .i64 64] w fun e w' => e = .returned (.tuple #[.int .u64 12, .nilIface]) ∧ Below w.heap.size w w' := by
  refine (Tryz.strconv_ParseUint_10_at64_ok ⟨#[49, 50]⟩ (by decide) 12 (by decide) w).mono ?_
  rintro e w' ⟨rfl, h⟩
  refine ⟨rfl, ?_⟩
  rcases h with rfl | rfl
  · exact Below.refl _ _
  · exact Lib.bytesWorld_below _ _ _
set_option maxRecDepth 100000 in
set_option maxHeartbeats 2000000 in
theorem parse_12 (w : World) : Calls Tryz.prog 112 #[.string ⟨#[49, 50]⟩] w fun e w' => ∃ g c, e = .returned (.slice (some ⟨g, 0, none⟩) 1 c) ∧ One w w' 12 g c := by
  have PU := Lib.hid fun W => parse_u12 W
  have mx : max (-2 : Int) 0 = 0 := by decide
  have ex : (⟨#[49, 50]⟩ : ByteArray).extract 0 2 = ⟨#[49, 50]⟩ := by decide
  have ey : (⟨#[49, 50]⟩ : ByteArray).extract 0 0 = ⟨#[]⟩ := by decide
  go_enter Tryz.func112, Tryz.ntmps112
  go_wp2_with fail
  refine wp_loop_rounds 3 ?_
  rw [rounds_succ]
  go_wp2_with fail
  refine (PU.out _).mono ?_
  rintro e w1 ⟨rfl, hb1⟩
  have B1 := Lib.hid hb1
  clear hb1
  go_wp2_with (at_builtin; refine wpList_append1 rfl (.tmp 21) (.tmp 23) 26 rfl w1.heap.size 22 .u64 8 Tryz.underlying26 info22 (by decide) (.slice none 0 0) [] 12 rfl rfl (OI.nil _ _ _ _) (by simp) (Nat.le_refl _) ?_; intro v w2 ho hb; obtain ⟨g2, c2, rfl, _, ho2⟩ := one_of (x := 12) B1.out ho hb; have O2 := Lib.hid ho2; clear ho hb ho2)
  rw [rounds_succ]
  go_wp2_with fail
  go_ret
  exact ⟨g2, c2, rfl, O2.out⟩
theorem load252 {W : World} {g : Nat} {a b c : Value} (h : Blk W g 252 #[a, b, c]) : W.cell? ⟨g, 0, none⟩ = some a ∧ W.cell? ⟨g, 1, none⟩ = some b ∧ W.cell? ⟨g, 2, none⟩ = some c := ⟨h.cell 0, h.cell 1, h.cell 2⟩
set_option maxRecDepth 100000 in
set_option maxHeartbeats 2000000 in
theorem carried_144 (gj c : Nat) (w : World) (h : Blk w gj 252 #[.int .u64 144, .int .u64 0, .int .u64 0]) : Calls Tryz.prog 114 #[.slice (some ⟨gj, 0, none⟩) 1 c] w fun e w' => ∃ g c, e = .returned (.slice (some ⟨g, 0, none⟩) 1 c) ∧ One w w' 144 g c := by
  obtain ⟨d0, d1, d2⟩ := load252 h
  have B1 := Lib.hid ((Below.refl w.heap.size w).alloc (Nat.le_refl _) (.cells #[.int .u64 144, .int .u64 0, .int .u64 0] 252))
  clear h
  go_enter Tryz.func114, Tryz.ntmps114
  go_wp2_with fail
  refine wp_loop_rounds 2 ?_
  rw [rounds_succ]
  go_upto_region 7 with fail
  generalize w.alloc (.cells #[.int .u64 144, .int .u64 0, .int .u64 0] 252) = W1 at *
  go_wp2_with (at_builtin; refine wpList_append1 rfl (.tmp 18) (.tmp 21) 26 rfl W1.heap.size 22 .u64 8 Tryz.underlying26 info22 (by decide) (.slice none 0 0) [] 144 rfl rfl (OI.nil _ _ _ _) (by simp) (Nat.le_refl _) ?_; intro v w2 ho hb; obtain ⟨g2, c2, rfl, _, ho2⟩ := one_of (x := 144) B1.out ho hb; have O2 := Lib.hid ho2; clear ho hb ho2)
  rw [rounds_succ]
  go_wp2_with fail
  refine wp_loop_rounds 1 ?_
  rw [rounds_succ]
  go_wp2_with fail
  go_ret
  exact ⟨g2, c2, rfl, O2.out⟩
theorem dec_144 : Lib.decDigits 144 = [49, 52, 52] := by
  rw [Lib.decDigits, dif_neg (by decide), Lib.decDigits, dif_neg (by decide), Lib.decDigits, dif_pos (by decide)]
  rfl
set_option maxRecDepth 100000 in
set_option maxHeartbeats 2000000 in
theorem show_144 (ad : Addr) (c : Nat) (w : World) (hx : RI .u64 w (some ad) [144]) (htab : Lib.TabIs Tryz.prog w "internal/strconv.uint64pow10" .u64 Lib.pow10Tab) :
    Calls Tryz.prog 113 #[.slice (some ad) 1 c] w fun e w' => e = .returned (.tuple #[.string ⟨#[49, 52, 52]⟩, .int .i64 0]) ∧ Below w.heap.size w w' := by
  have B1 := Lib.hid ((Below.refl w.heap.size w).alloc (Nat.le_refl _) (.cells #[.pointer none, .slice none 0 0] 245))
  have K1 := Lib.hid (Blk.new w 245 #[.pointer none, .slice none 0 0])
  obtain ⟨ad', h1, hc⟩ := (hx.below B1.out) 0 (by simp)
  cases h1
  have c0 : (w.alloc (.cells #[.pointer none, .slice none 0 0] 245)).cell? (ad.add 0) = some (.int .u64 144) := hc
  have c1 : (w.alloc (.cells #[.pointer none, .slice none 0 0] 245)).cell? ad = some (.int .u64 144) := by rw [addr_zero] at c0; exact c0
  have FU := Lib.hid (show Calls Tryz.prog 167 #[.int .u64 144, .int .i64 10] (w.alloc (.cells #[.pointer none, .slice none 0 0] 245)) fun e w' => e = .returned (.string ⟨#[49, 52, 52]⟩) ∧ Below (w.alloc (.cells #[.pointer none, .slice none 0 0] 245)).heap.size (w.alloc (.cells #[.pointer none, .slice none 0 0] 245)) w' from by
    have h := FormatUint_10 144 (by decide) (by decide) _ (Lib.tabIs_alloc htab (.cells #[.pointer none, .slice none 0 0] 245))
    rw [dec_144] at h
    exact h)
  clear hx htab hc
  go_enter Tryz.func113, Tryz.ntmps113
  go_wp2_with fail
  refine wp_loop_rounds 1 ?_
  rw [rounds_succ]
  go_wp2_with fail
  refine wp_loop_rounds 2 ?_
  rw [rounds_succ]
  go_wp2_with fail
  refine FU.out.mono ?_
  rintro e w2 ⟨rfl, hb2⟩
  have B2 := Lib.hid (below_then B1.out B1.out.size hb2)
  have K2 := Lib.hid (K1.out.below hb2 K1.out.lt)
  have HB := Lib.hid (show Lib.BuilderAt 245 5 w.heap.size w.heap.size (.pointer none) [] w2 from ⟨Nat.le_refl _, .slice none 0 0, K2.out, World.ownsRow_nil _ _ _ _, by simp [Value.ownBlock]⟩)
  have WS := Lib.hid (WriteString_fresh w.heap.size w.heap.size ⟨#[49, 52, 52]⟩ w2 HB.out (by decide) B2.out.size)
  clear hb2 c0 c1
  go_wp2_with fail
  refine WS.out.mono ?_
  rintro e w3 ⟨rfl, hb3, hw3⟩
  have B3 := Lib.hid (B2.out.trans hw3)
  have HB3 := Lib.hid hb3
  have LN := Lib.hid (show Calls Tryz.prog 170 #[.pointer (some ⟨w.heap.size, 0, none⟩)] w3 fun e w' => e = .returned (.int .i64 3) ∧ w' = w3 from Tryz.Builder_Len w.heap.size w.heap.size _ w3 (Or.inr hb3))
  have ST := Lib.hid (show Calls Tryz.prog 171 #[.pointer (some ⟨w.heap.size, 0, none⟩)] w3 fun e w' => e = .returned (.string ⟨#[49, 52, 52]⟩) ∧ Below w.heap.size w3 w' from Tryz.Builder_String w.heap.size w.heap.size [49, 52, 52] w3 (Or.inr hb3) (by decide))
  clear hb3 hw3
  go_wp2_with fail
  rw [rounds_succ]
  go_wp2_with fail
  refine LN.out.mono ?_
  rintro e w' ⟨rfl, rfl⟩
  go_wp2_with fail
  refine ST.out.mono ?_
  rintro e w4 ⟨rfl, hb4⟩
  have B4 := Lib.hid (B3.out.trans hb4)
  clear hb4
  go_wp2_with fail
  go_ret2
  exact ⟨rfl, B4.out⟩
theorem one_of_pm {g p : Nat} (h : pm g p 64 (p - 1) = 1) (hp : p < Mg.R) : g ^ (p - 1) % p = 1 := by
  rw [← pm_eq g p 64 (p - 1) (by have : (2 : Nat) ^ 64 = Mg.R := by decide
                                 omega)]
  exact h
theorem fu_of {lo hi : Nat} {w : World} {gf p g : Nat} (h : FB lo hi w gf p g) (hg : g < Mg.R) (hb : 144 < p) (h1 : pm g p 64 (p - 1) = 1) : FU w gf p g :=
  ⟨h.fd, hg, hb, one_of_pm h1 (by have := h.fd.high; simp only [Mg.R]; omega)⟩
theorem cop_1 : Nat.gcd 469762049 754974721 = 1 := by decide +kernel
theorem cop_2 : Nat.gcd 167772161 (754974721 * 469762049 % 167772161) = 1 := by decide +kernel
theorem big_q : 0 < hi (754974721 * 469762049) 167772161 0 := by decide +kernel
/-- The trio of the three least known primes lies. -/
def TrK (w : World) (g : Nat) : Prop := ∃ a b c s t, Tr w g a b c 754974721 469762049 167772161 11 3 3 s t (754974721 * 469762049) (lo (754974721 * 469762049) 167772161 0) (hi (754974721 * 469762049) 167772161 0)
set_option maxRecDepth 100000 in
set_option maxHeartbeats 2000000 in
theorem trio_ok (w : World) : Calls Tryz.prog 63 #[] w fun e w' => ∃ g, e = .returned (.pointer (some ⟨g, 0, none⟩)) ∧ TrK w' g ∧ Below w.heap.size w w' := by
  have C1 := Lib.hid fun W => Known_3 W
  have C2 := Lib.hid fun W => Known_4 W
  have C3 := Lib.hid fun W => Known_5 W
  have NW := Lib.hid fun (a b c : Nat) (W : World) (ha : FU W a 754974721 11) (hb : FU W b 469762049 3) (hc : FU W c 167772161 3) => gNew_3 a b c 754974721 469762049 167772161 11 3 3 W ha.fd hb.fd hc.fd (by decide) (by decide) (by decide) cop_1 cop_2 (by decide)
  go_enter Tryz.func63, Tryz.ntmps63
  go_wp2_with fail
  refine (C1.out _).mono ?_
  rintro e w1 ⟨a, rfl, hf1, hb1⟩
  have F1 := Lib.hid (fu_of hf1 (by decide) (by decide) (by decide +kernel))
  have B1 := Lib.hid hb1
  clear hf1 hb1
  go_wp2_with fail
  refine (C2.out _).mono ?_
  rintro e w2 ⟨b, rfl, hf2, hb2⟩
  have F2 := Lib.hid (fu_of hf2 (by decide) (by decide) (by decide +kernel))
  have G1 := Lib.hid (F1.out.below hb2)
  have B2 := Lib.hid (below_then B1.out B1.out.size hb2)
  clear hf2 hb2
  go_wp2_with fail
  refine (C3.out _).mono ?_
  rintro e w3 ⟨c, rfl, hf3, hb3⟩
  have F3 := Lib.hid (fu_of hf3 (by decide) (by decide) (by decide +kernel))
  have H1 := Lib.hid (G1.out.below hb3)
  have H2 := Lib.hid (F2.out.below hb3)
  have B3 := Lib.hid (below_then B2.out B2.out.size hb3)
  clear hf3 hb3
  go_wp2_with fail
  refine (NW.out a b c w3 H1.out H2.out F3.out).mono ?_
  rintro e w4 ⟨g, s, t, rfl, hk4, hs4, ht4, hb4, _⟩
  have HT := Lib.hid (show TrK w4 g from ⟨a, b, c, s, t, H1.out.below hb4, H2.out.below hb4, F3.out.below hb4, hk4, hs4, ht4, by decide, big_q⟩)
  have B4 := Lib.hid (below_then B3.out B3.out.size hb4)
  clear hk4 hs4 ht4 hb4
  go_wp2_with fail
  go_ret
  exact ⟨g, rfl, HT.out, B4.out⟩
theorem TrK.below {w w1 : World} {g : Nat} (h : TrK w g) (k : Below w.heap.size w w1) : TrK w1 g := by
  obtain ⟨a, b, c, s, t, h⟩ := h
  exact ⟨a, b, c, s, t, h.below k⟩
set_option maxRecDepth 100000 in
set_option maxHeartbeats 2000000 in
theorem times_12 (g : Nat) (w : World) (h : TrK w g) (htab : ∀ W, Below w.heap.size w W → Lib.TabIs Tryz.prog W "internal/strconv.uint64pow10" .u64 Lib.pow10Tab) :
    Calls Tryz.prog 62 #[.pointer (some ⟨g, 0, none⟩), .string ⟨#[49, 50]⟩, .string ⟨#[49, 50]⟩] w fun e w' => e = .returned (.tuple #[.string ⟨#[49, 52, 52]⟩, .int .i64 0]) ∧ Below w.heap.size w w' := by
  have PA := Lib.hid fun W => parse_12 W
  have UN := Lib.hid fun (W : World) (k : Below w.heap.size w W) (x1 x2 c1 c2 : Nat) (h1 : RI .u64 W (some ⟨x1, 0, none⟩) [12]) (h2 : RI .u64 W (some ⟨x2, 0, none⟩) [12]) => (show Calls Tryz.prog 111 #[.pointer (some ⟨g, 0, none⟩), .slice (some ⟨x1, 0, none⟩) 1 c1, .slice (some ⟨x2, 0, none⟩) 1 c2] W (fun e w' => ∃ gj, e = .returned (.tuple #[.slice (some ⟨gj, 0, none⟩) 1 1, .int .i64 0]) ∧ Blk w' gj 252 #[.int .u64 144, .int .u64 0, .int .u64 0] ∧ Below W.heap.size W w') from by
    obtain ⟨a, b, c, s, t, hT⟩ := h.below k
    exact Unsigned_12 g a b c _ _ _ _ _ _ s t _ _ _ ⟨x1, 0, none⟩ ⟨x2, 0, none⟩ c1 c2 W hT h1 h2)
  have SH := Lib.hid fun (W : World) (k : Below w.heap.size w W) (x c : Nat) (hx : RI .u64 W (some ⟨x, 0, none⟩) [144]) => show_144 ⟨x, 0, none⟩ c W hx (htab W k)
  clear h htab
  go_enter Tryz.func62, Tryz.ntmps62
  go_wp2_with fail
  refine (PA.out _).mono ?_
  rintro e w1 ⟨g1, c1, rfl, h1⟩
  have O1 := Lib.hid h1
  clear h1
  go_wp2_with fail
  refine (PA.out _).mono ?_
  rintro e w2 ⟨g2, c2, rfl, h2⟩
  have O2 := Lib.hid h2
  have P1 := Lib.hid (O1.out.then h2.b)
  clear h2
  go_wp2_with fail
  refine (UN.out w2 P1.out.b g1 g2 c1 c2 P1.out.ri O2.out.ri).mono ?_
  rintro e w3 ⟨g3, rfl, hk3, hb3⟩
  have B3 := Lib.hid (below_then P1.out.b P1.out.b.size hb3)
  have CA := Lib.hid (carried_144 g3 1 w3 hk3)
  clear hk3 hb3
  go_wp2_with fail
  refine CA.out.mono ?_
  rintro e w4 ⟨g4, c4, rfl, h4⟩
  have O4 := Lib.hid h4
  have B4 := Lib.hid (below_then B3.out B3.out.size h4.b)
  clear h4
  go_wp2_with fail
  refine (SH.out w4 B4.out g4 c4 O4.out.ri).mono ?_
  rintro e w5 ⟨rfl, hb5⟩
  have B5 := Lib.hid (below_then B4.out B4.out.size hb5)
  clear hb5
  go_wp2_with fail
  go_ret2
  exact ⟨rfl, B5.out⟩
set_option maxRecDepth 100000 in
set_option maxHeartbeats 2000000 in
theorem Mul_12 (w : World) (htab : ∀ W, Below w.heap.size w W → Lib.TabIs Tryz.prog W "internal/strconv.uint64pow10" .u64 Lib.pow10Tab) :
    Calls Tryz.prog 28 #[.string ⟨#[49, 50]⟩, .string ⟨#[49, 50]⟩] w fun e w' => e = .returned (.tuple #[.string ⟨#[49, 52, 52]⟩, .int .i64 0]) ∧ Below w.heap.size w w' := by
  have GD := Lib.hid fun W => Good_12 W
  have TR := Lib.hid fun W => trio_ok W
  have TM := Lib.hid fun (W : World) (g : Nat) (k : Below w.heap.size w W) (h : TrK W g) => times_12 g W h (fun V hV => htab V (below_then k k.size hV))
  clear htab
  go_enter Tryz.func28, Tryz.ntmps28
  go_wp2_with fail
  refine (GD.out _).mono ?_
  rintro e w1 ⟨rfl, hb1⟩
  have B1 := Lib.hid hb1
  clear hb1
  go_wp2_with fail
  refine (GD.out _).mono ?_
  rintro e w2 ⟨rfl, hb2⟩
  have B2 := Lib.hid (below_then B1.out B1.out.size hb2)
  clear hb2
  go_wp2_with fail
  refine (TR.out _).mono ?_
  rintro e w3 ⟨g, rfl, ht, hb3⟩
  have B3 := Lib.hid (below_then B2.out B2.out.size hb3)
  have TT := Lib.hid (TM.out w3 g B3.out ht)
  clear ht hb3
  go_wp2_with fail
  refine TT.out.mono ?_
  rintro e w4 ⟨rfl, hb4⟩
  have B4 := Lib.hid (below_then B3.out B3.out.size hb4)
  clear hb4
  go_wp2_with fail
  go_ret2
  exact ⟨rfl, B4.out⟩
end Go.Proofs.YtpkpadepccneeaaGreatDoor
