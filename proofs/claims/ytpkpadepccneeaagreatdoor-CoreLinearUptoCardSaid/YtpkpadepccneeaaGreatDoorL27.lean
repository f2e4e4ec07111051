/- The walk of axes.along on one axis of 4, stride 1, in the field of 5, way by sums. No condition. -/
import Derived.Test.YtpkpadepccneeaaGreatDoorL26
import Derived.Test.YtpkpadepccneeaaGreatDoorL24
import Derived.Test.YtpkpadepccneeaaGreatDoorL16
import Derived.Deep.RegionHeld3
import Derived.Test.YtpkpadepccneeaaGreatDoorL01
import Derived.Test.YtpkpadepccneeaaGreatDoorL10
import Derived.Test.YtpkpadepccneeaaGreatDoorL09
import Derived.Test.YtpkpadepccneeaaGreatDoorL11
import Derived.BigRegion
namespace Go.Proofs.YtpkpadepccneeaaGreatDoor
set_option linter.unusedVariables false
set_option linter.unusedSimpArgs false
open Go Go.RowKit Go.Shelf
attribute [local go_sem] Oper.semAt_some
/-- The boxes of along's parameters. -/
structure AlB (s : Nat) (W : World) (gf gb cb : Nat) (A B : Option Addr) (ca cv : Nat) : Prop where
  b0 : Blk W s 35 #[.pointer (some ⟨gf, 0, none⟩)]
  b1 : Blk W (s + 1) 26 #[.slice (some ⟨gb, 0, none⟩) 4 cb]
  b2 : Blk W (s + 1 + 1) 41 #[.int .i64 0, .slice A 1 ca, .slice B 1 cv]
  b3 : Blk W (s + 1 + 1 + 1) 3 #[.int .i64 0]
  b4 : Blk W (s + 1 + 1 + 1 + 1) 54 #[.int .i64 0, .int .i64 4, .int .i64 0]
  b5 : Blk W (s + 1 + 1 + 1 + 1 + 1) 4 #[.bool false]
theorem AlB.new (w : World) (gf gb cb : Nat) (A B : Option Addr) (ca cv : Nat) :
    AlB w.heap.size ((((((w.alloc (.cells #[.pointer (some ⟨gf, 0, none⟩)] 35)).alloc (.cells #[.slice (some ⟨gb, 0, none⟩) 4 cb] 26)).alloc (.cells #[.int .i64 0, .slice A 1 ca, .slice B 1 cv] 41)).alloc (.cells #[.int .i64 0] 3)).alloc (.cells #[.int .i64 0, .int .i64 4, .int .i64 0] 54)).alloc (.cells #[.bool false] 4)) gf gb cb A B ca cv := by
  have h1 := Blk.new (w.alloc (.cells #[.pointer (some ⟨gf, 0, none⟩)] 35)) 26 #[.slice (some ⟨gb, 0, none⟩) 4 cb]
  have h2 := Blk.new ((w.alloc (.cells #[.pointer (some ⟨gf, 0, none⟩)] 35)).alloc (.cells #[.slice (some ⟨gb, 0, none⟩) 4 cb] 26)) 41 #[.int .i64 0, .slice A 1 ca, .slice B 1 cv]
  have h3 := Blk.new (((w.alloc (.cells #[.pointer (some ⟨gf, 0, none⟩)] 35)).alloc (.cells #[.slice (some ⟨gb, 0, none⟩) 4 cb] 26)).alloc (.cells #[.int .i64 0, .slice A 1 ca, .slice B 1 cv] 41)) 3 #[.int .i64 0]
  have h4 := Blk.new ((((w.alloc (.cells #[.pointer (some ⟨gf, 0, none⟩)] 35)).alloc (.cells #[.slice (some ⟨gb, 0, none⟩) 4 cb] 26)).alloc (.cells #[.int .i64 0, .slice A 1 ca, .slice B 1 cv] 41)).alloc (.cells #[.int .i64 0] 3)) 54 #[.int .i64 0, .int .i64 4, .int .i64 0]
  have h5 := Blk.new (((((w.alloc (.cells #[.pointer (some ⟨gf, 0, none⟩)] 35)).alloc (.cells #[.slice (some ⟨gb, 0, none⟩) 4 cb] 26)).alloc (.cells #[.int .i64 0, .slice A 1 ca, .slice B 1 cv] 41)).alloc (.cells #[.int .i64 0] 3)).alloc (.cells #[.int .i64 0, .int .i64 4, .int .i64 0] 54)) 4 #[.bool false]
  simp only [World.size_alloc] at h1 h2 h3 h4 h5
  exact ⟨(((((Blk.new w 35 _).alloc _).alloc _).alloc _).alloc _).alloc _, (((h1.alloc _).alloc _).alloc _).alloc _, ((h2.alloc _).alloc _).alloc _, (h3.alloc _).alloc _, h4.alloc _, h5⟩
theorem AlB.fr {s : Nat} {W W1 : World} {gf gb cb : Nat} {A B : Option Addr} {ca cv : Nat} {S : Nat → Prop} (h : AlB s W gf gb cb A B ca cv) (hf : Fr S W W1) (hS : ∀ i, s ≤ i → i ≤ s + 5 → ¬ S i) : AlB s W1 gf gb cb A B ca cv :=
  ⟨hf.blk h.b0 (hS _ (by omega) (by omega)), hf.blk h.b1 (hS _ (by omega) (by omega)), hf.blk h.b2 (hS _ (by omega) (by omega)), hf.blk h.b3 (hS _ (by omega) (by omega)), hf.blk h.b4 (hS _ (by omega) (by omega)), hf.blk h.b5 (hS _ (by omega) (by omega))⟩
theorem add_zero (a : Addr) : a.add 0 = a := by unfold Addr.add; simp
theorem below6 (w : World) (o1 o2 o3 o4 o5 o6 : Obj) : Below w.heap.size w ((((((w.alloc o1).alloc o2).alloc o3).alloc o4).alloc o5).alloc o6) :=
  ((((((Below.refl _ w).alloc (Nat.le_refl _) _).alloc (by simp) _).alloc (by simp; omega) _).alloc (by simp; omega) _).alloc (by simp; omega) _).alloc (by simp; omega) _
/-- What the loop stands on: the boxes; the line's first cell; the step; the shape; the field; the buffer. -/
structure AlI (s c1 gc cc gf gb cb Bb lo hi : Nat) (A B : Option Addr) (ca cv : Nat) (w U : World) (bs : List Nat) : Prop where
  bx : AlB s U gf gb cb A B ca cv
  cc0 : Blk U c1 27 #[.slice (some ⟨gc, 0, none⟩) 4 cc]
  st : Blk U (c1 + 1) 3 #[.int .i64 1]
  ce : U.cell? ⟨gc, 0, none⟩ = some (.int .i64 0)
  sh : RI .i64 U A [4]
  fb : FB lo hi U gf 5 2
  bu : OL U Bb gb cb bs
  fr : Fr (fun i => i = gb) w U
theorem AlI.kept {s c1 gc cc gf gb cb Bb lo hi : Nat} {A B : Option Addr} {ca cv : Nat} {w U U' : World} {bs : List Nat} (h : AlI s c1 gc cc gf gb cb Bb lo hi A B ca cv w U bs) (hs : s = w.heap.size) (hc : s + 5 < c1) (hgc : gc < c1) (hhi : hi ≤ s) (hgb : gb < s)
    (hA : ∀ ad, A = some ad → ad.block < c1) {row : Option Nat} (hg : U.grownBy U' row) (hr : ∀ r, row = some r → c1 + 2 ≤ r) : AlI s c1 gc cc gf gb cb Bb lo hi A B ca cv w U' bs := by
  have hf : Fr (fun i => c1 + 2 ≤ i) U U' := Fr.of_grown hg hr
  exact ⟨h.bx.fr hf (fun i h1 h2 => by omega), hf.blk h.cc0 (by omega), hf.blk h.st (by omega), hf.cell h.ce (by show ¬ c1 + 2 ≤ gc; omega), W.RI.frS h.sh hf (fun ad e _ => by have := hA ad e; omega),
    h.fb.fr hf (fun i h1 h2 => by omega), OI.kept h.bu hg (fun g hv e => by
      have : g = gb := by simpa [Value.ownBlock] using hv.symm
      have := hr g e
      omega), h.fr.or hf (fun i _ h => h) (fun i hi h => by omega)⟩
theorem OL.ri {w : World} {B g c : Nat} {ys : List Nat} (h : OL w B g c ys) : RI .u64 w (some ⟨g, 0, none⟩) (nats ys) := by
  obtain ⟨A, c', e, hr⟩ := OI.form h
  injection e with e _ _
  rw [e]; exact hr
theorem riL_of {w : World} {B g n c : Nat} {ys : List Nat} (h : OI .u64 22 w B (.slice (some ⟨g, 0, none⟩) n c) (nats ys)) : RI .u64 w (some ⟨g, 0, none⟩) (nats ys) := by
  obtain ⟨A, c', e, hr⟩ := OI.form h
  injection e with e _ _
  rw [e]; exact hr
def zs4 (bs : List Nat) : List Nat := (List.range 4).map fun i => bs.getD (spot 0 1 i) 0
theorem zs4_get (bs : List Nat) (j : Nat) (hj : j < 4) : (zs4 bs).getD j 0 = bs.getD j 0 := by
  have e : spot 0 1 j = j := by unfold spot; simp
  unfold zs4
  rw [mapget (fun i => bs.getD (spot 0 1 i) 0) 4 j hj, e]
theorem take_4 (gb cb Bb : Nat) (bs : List Nat) (w : World) (ho : OL w Bb gb cb bs) (hl : bs.length = 4) :
    Calls Tryz.prog 81 #[.agg #[.slice (some ⟨gb, 0, none⟩) 4 cb, .int .i64 0, .int .i64 1, .int .i64 4]] w fun e w' => ∃ g', e = .returned (.slice (some ⟨g', 0, none⟩) 4 4) ∧
      OI .u64 22 w' w.heap.size (.slice (some ⟨g', 0, none⟩) 4 4) (nats (zs4 bs)) ∧ Below w.heap.size w w' := by
  have h := take_any (some ⟨gb, 0, none⟩) cb 4 bs 0 1 w ho.ri (by decide) (by omega) (by decide) (by decide) (fun i hi => by omega)
  rw [hl] at h
  exact h
theorem lay_4 (gb cb Bb gx cx B2 : Nat) (bs xs : List Nat) (w : World) (ho : OL w Bb gb cb bs) (hl : bs.length = 4) (hx : OI .u64 22 w B2 (.slice (some ⟨gx, 0, none⟩) 4 cx) (nats xs)) (hxl : xs.length = 4) (hne : gx ≠ gb) (hgb : gb < w.heap.size) :
    Calls Tryz.prog 82 #[.agg #[.slice (some ⟨gb, 0, none⟩) 4 cb, .int .i64 0, .int .i64 1, .int .i64 4], .slice (some ⟨gx, 0, none⟩) 4 cx] w fun e w' => e = .returned undef ∧ OL w' Bb gb cb (layL bs xs 0 1 4) ∧ Fr (fun i => i = gb) w w' :=
  lay_any Bb gb cb gx cx 4 4 bs xs 0 1 w hl hxl ho (fun i hi => by
    have h := (show OI .u64 22 w B2 (.slice (some ⟨gx, 0, none⟩) (nats xs).length cx) (nats xs) by rw [nats_len, hxl]; exact hx).cellAt (i := i) (by rw [nats_len]; omega)
    rw [nats_get] at h
    exact h) hne hgb (OI.base hx).2 (by decide) (by decide) (by decide) (by decide) (fun i hi => by omega) _
set_option maxRecDepth 100000 in
set_option maxHeartbeats 4000000 in
theorem along_4 (gf gb cb Bb lo hi : Nat) (A B : Option Addr) (ca cv : Nat) (bs : List Nat) (w : World) (hf : FB lo hi w gf 5 2) (hr : RI .i64 w A [4]) (hs : RI .i64 w B [1]) (ho : OL w Bb gb cb bs) (hl : bs.length = 4) (hb : ∀ j, j < 4 → bs.getD j 0 < 5)
    (hA : ∀ ad, A = some ad → ad.block ≠ gb) (hB : ∀ ad, B = some ad → ad.block ≠ gb) (hlo : gb < lo ∨ hi ≤ gb) (hhi : hi ≤ w.heap.size) (hgb : gb < w.heap.size) :
    Calls Tryz.prog 40 #[.pointer (some ⟨gf, 0, none⟩), .slice (some ⟨gb, 0, none⟩) 4 cb, .agg #[.int .i64 0, .slice A 1 ca, .slice B 1 cv], .int .i64 0, .agg #[.int .i64 0, .int .i64 4, .int .i64 0], .bool false] w fun e w' => e = .returned undef ∧
      OL w' Bb gb cb (layL bs ((List.range 4).map fun i => dot 5 2 ((List.range 4).map fun i => bs.getD (spot 0 1 i) 0) 4 i 4) 0 1 4) ∧ Fr (fun i => i = gb) w w' := by
  have HA0 := Lib.hid (AlB.new w gf gb cb A B ca cv)
  have hb6 := below6 w (.cells #[.pointer (some ⟨gf, 0, none⟩)] 35) (.cells #[.slice (some ⟨gb, 0, none⟩) 4 cb] 26) (.cells #[.int .i64 0, .slice A 1 ca, .slice B 1 cv] 41) (.cells #[.int .i64 0] 3) (.cells #[.int .i64 0, .int .i64 4, .int .i64 0] 54) (.cells #[.bool false] 4)
  have HB6 := Lib.hid hb6
  have CC := Lib.hid (W.Cells_any 0 A B ca cv [4] [1] _ (hr.below hb6) (hs.below hb6) (by decide) (by decide))
  have v0 := HA0.out.b2.cell 0
  have v1 := HA0.out.b2.cell 1
  have v2 := HA0.out.b2.cell 2
  have HR := Lib.hid hr
  have HS := Lib.hid hs
  have HF := Lib.hid hf
  have HO := Lib.hid ho
  have HBD := Lib.hid hb
  clear hb6 hr hs hf ho hb
  refine (callsIn_wide (n := 9)).1 (callsIn_of_wp_marks Tryz.func40 rfl trivial ?_ rfl)
  simp only [Tryz.ntmps40, List.size_toArray, List.length_cons, List.length_nil, Nat.reduceAdd, Nat.reduceSub, Array.replicate_succ, Array.replicate_zero, List.push_toArray, List.append_toArray, List.nil_append, List.cons_append]
  gi_wp2
  refine ⟨trivial, ?_⟩
  refine (callsIn_wide.2 CC.out).mono ?_
  rintro e w1 ⟨v, rfl, hc, hb1⟩
  rw [W.cells4] at hc
  obtain ⟨Ac, cc, rfl, _⟩ := hc.form
  obtain ⟨gc, rfl⟩ := hc.some (i := 0) (by decide)
  have HA1 := Lib.hid (HA0.out.fr (Fr.of_below (fun _ => False) hb1) (fun _ _ _ h => h))
  have HB1 := Lib.hid (below_then HB6.out HB6.out.size hb1)
  have HC := Lib.hid hc
  have hgc := hc.base
  have hgc1 : w.heap.size ≤ gc := Nat.le_trans HB6.out.size hgc.1
  clear hb1 hc v0 v1 v2 CC
  have HR1 := Lib.hid (HR.out.below HB1.out)
  have HS1 := Lib.hid (HS.out.below HB1.out)
  obtain ⟨adA, rfl, hcA⟩ := HR1.out.at_ (i := 0) (by decide)
  obtain ⟨adB, rfl, hcB⟩ := HS1.out.at_ (i := 0) (by decide)
  have v0 := HA1.out.b2.cell 0
  have v1 := HA1.out.b2.cell 1
  have v2 := HA1.out.b2.cell 2
  have x0 := HA1.out.b3.cell 0
  have q1 : w.heap.size + 1 + 1 < w1.heap.size := HA1.out.b2.lt
  have q2 : w.heap.size + 1 + 1 + 1 < w1.heap.size := HA1.out.b3.lt
  have hA0 : w1.cell? adA = some (.int .i64 4) := by rw [add_zero] at hcA; exact hcA
  have hB0 : w1.cell? adB = some (.int .i64 1) := by rw [add_zero] at hcB; exact hcB
  have q3 : adA.block < w1.heap.size := World.block_lt_of_cell? _ _ hA0
  have q4 : adB.block < w1.heap.size := World.block_lt_of_cell? _ _ hB0
  have q1' : w.heap.size + 1 + 1 < w1.heap.size + 1 := by omega
  have q2' : w.heap.size + 1 + 1 + 1 < w1.heap.size + 1 := by omega
  have q3' : adA.block < w1.heap.size + 1 := by omega
  have q4' : adB.block < w1.heap.size + 1 := by omega
  clear hcA hcB
  have hce : w1.cell? ⟨gc, 0, none⟩ = some (.int .i64 0) := (show OI .i64 3 w1 _ (.slice (some ⟨gc, 0, none⟩) [(0 : Int), 1, 2, 3].length cc) [0, 1, 2, 3] from HC.out).cellAt (i := 0) (by decide)
  gi_wp2
  refine ⟨trivial, ?_⟩
  refine (callsIn_wide.2 (W.All_any (some adA) 1 ca _)).mono ?_
  rintro e w2 ⟨rfl, rfl⟩
  have hb3 : Below w1.heap.size w1 (((w1.alloc (.cells #[.slice (some ⟨gc, 0, none⟩) 4 cc] 27)).alloc (.cells #[.int .i64 1] 3)).alloc (.cells #[.slice (some adA) 1 ca] 27)) :=
    (((Below.refl _ w1).alloc (Nat.le_refl _) _).alloc (by simp) _).alloc (by simp; omega) _
  have Z1 := ((Blk.new w1 27 #[.slice (some ⟨gc, 0, none⟩) 4 cc]).alloc (.cells #[.int .i64 1] 3)).alloc (.cells #[.slice (some adA) 1 ca] 27)
  have Z2 := (Blk.new (w1.alloc (.cells #[.slice (some ⟨gc, 0, none⟩) 4 cc] 27)) 3 #[.int .i64 1]).alloc (.cells #[.slice (some adA) 1 ca] 27)
  have Z3 := Blk.new ((w1.alloc (.cells #[.slice (some ⟨gc, 0, none⟩) 4 cc] 27)).alloc (.cells #[.int .i64 1] 3)) 27 #[.slice (some adA) 1 ca]
  simp only [World.size_alloc] at Z2 Z3
  have hs5 : w.heap.size + 5 < w1.heap.size := HA1.out.b5.lt
  have HI := Lib.hid (show AlI w.heap.size w1.heap.size gc cc gf gb cb Bb lo hi (some adA) (some adB) ca cv w (((w1.alloc (.cells #[.slice (some ⟨gc, 0, none⟩) 4 cc] 27)).alloc (.cells #[.int .i64 1] 3)).alloc (.cells #[.slice (some adA) 1 ca] 27)) bs from
    ⟨HA1.out.fr (Fr.of_below (fun _ => False) hb3) (fun _ _ _ h => h), Z1, Z2, bcell hb3 hce, HR1.out.below hb3, (HF.out.below HB1.out).below hb3, OI.below (OI.below HO.out HB1.out) hb3, Fr.of_below _ (below_then HB1.out HB1.out.size hb3)⟩)
  have HZ3 := Lib.hid Z3
  have HRV := Lib.hid (HR1.out.below hb3)
  have hsV : (((w1.alloc (.cells #[.slice (some ⟨gc, 0, none⟩) 4 cc] 27)).alloc (.cells #[.int .i64 1] 3)).alloc (.cells #[.slice (some adA) 1 ca] 27)).heap.size = w1.heap.size + 3 := by simp only [World.size_alloc]
  have hgc2 := hgc.2
  clear Z1 Z2 Z3 hb3 hce v0 v1 v2 x0 q1 q2 q1' q2' q3' q4' hA0 hB0 HA0 HA1 HB6 HS1 HR1 HC HS HR
  gi_wp2
  generalize ((w1.alloc (.cells #[.slice (some ⟨gc, 0, none⟩) 4 cc] 27)).alloc (.cells #[.int .i64 1] 3)).alloc (.cells #[.slice (some adA) 1 ca] 27) = V at *
  have hww := HB1.out.size
  clear HB1
  generalize w1.heap.size = c1 at *
  have hAd : ∀ ad, some adA = some ad → ad.block < c1 := fun ad e => by cases e; exact q3
  obtain ⟨buf, hbuf⟩ : ∃ buf : Nat → List Nat, buf = fun i => if i = 0 then bs else layL bs ((List.range 4).map fun i => dot 5 2 ((List.range 4).map fun i => bs.getD (spot 0 1 i) 0) 4 i 4) 0 1 4 := ⟨_, rfl⟩
  have hbuf0 : buf 0 = bs := by rw [hbuf]; rfl
  have hbuf1 : ∀ k, buf (k + 1) = layL bs ((List.range 4).map fun i => dot 5 2 ((List.range 4).map fun i => bs.getD (spot 0 1 i) 0) 4 i 4) 0 1 4 := fun k => by rw [hbuf]; rfl
  refine RangeE.range_law True (n := 9) (gf := 134) (lb := #[.pointer (some ⟨c1 + 1 + 1, 0, none⟩)]) rfl (by omega) rfl trivial (enters_of Tryz.func134 (by kernel_rfl) rfl)
    (W.All1_stopsE 8 (by omega) (c1 + 1 + 1) (some adA) ca [4] V HRV.out (by decide) HZ3.out) W.KeepS.trans
    (fun U o o' h => ⟨fun r => W.RI.frS r (Fr.of_grown (S := fun i => i = V.heap.size + 1) (grownBy_putObj' U (V.heap.size + 1) o') (fun r e => (Option.some.inj e).symm)) (fun ad e _ => by have := hAd ad e; omega),
      fun o'' ho => (World.putObj_heap_other (by omega)).trans ho, fun o'' ho => (World.putObj_heap_other (by omega)).trans ho⟩)
    (Below.refl _ _) (fun _ => rfl)
    (fun pre U => AlI w.heap.size c1 gc cc gf gb cb Bb lo hi (some adA) (some adB) ca cv w U (buf pre.length))
    (fun c pre U => False)
    (fun pre U U' row h hg hr => h.kept rfl hs5 (by omega) hhi hgb hAd hg (fun r e => by rcases hr r e with ⟨_, h⟩ | ⟨h, _⟩ <;> omega))
    (fun c pre U U' row h hg hr => h)
    (by show AlI _ _ _ _ _ _ _ _ _ _ _ _ _ _ _ _ (buf 0); rw [hbuf0]; exact HI.out)
    (fun x a' U => ∃ g, c1 + 5 ≤ g ∧ Blk U g 170 (W.idx [4] x) ∧ a' =
      { tmps := #[.pointer (some ⟨gf, 0, none⟩), .slice (some ⟨gb, 0, none⟩) 4 cb, .agg #[.int .i64 0, .slice (some adA) 1 ca, .slice (some adB) 1 cv], .int .i64 0, .agg #[.int .i64 0, .int .i64 4, .int .i64 0], .bool false,
        .pointer (some ⟨w.heap.size, 0, none⟩), .pointer (some ⟨w.heap.size + 1, 0, none⟩), .pointer (some ⟨w.heap.size + 1 + 1, 0, none⟩), .pointer (some ⟨w.heap.size + 1 + 1 + 1, 0, none⟩), .pointer (some ⟨w.heap.size + 1 + 1 + 1 + 1, 0, none⟩), .pointer (some ⟨w.heap.size + 1 + 1 + 1 + 1 + 1, 0, none⟩),
        .pointer (some ⟨c1, 0, none⟩), .pointer (some ⟨c1 + 1, 0, none⟩), .int .i64 x, .pointer (some ⟨g, 0, none⟩), undef, undef, undef,
        .agg #[.int .i64 0, .slice (some adA) 1 ca, .slice (some adB) 1 cv], .slice (some ⟨gc, 0, none⟩) 4 cc, .pointer (some ⟨w.heap.size + 1 + 1, 2, none⟩), .slice (some adB) 1 cv, .int .i64 0, .pointer (some adB), .int .i64 1,
        .pointer (some ⟨w.heap.size + 1 + 1, 1, none⟩), .slice (some adA) 1 ca, .int .i64 0, .pointer (some adA), .int .i64 4, .bool false, .pointer (some ⟨w.heap.size + 1 + 1, 1, none⟩), .slice (some adA) 1 ca,
        .func (.func 134) #[] #[.pointer (some ⟨c1 + 1 + 1, 0, none⟩)], .int .i64 x, .agg (W.idx [4] x), undef, undef, undef, undef, undef, undef, undef, undef, undef, undef, undef, undef, undef, undef, undef, undef, undef, undef, undef, undef, undef, undef, undef, undef, undef, undef, undef, undef], defers := [] })
    (fun x a' U o o' h ho ⟨g, h1, h2, h3⟩ => ⟨g, h1, h2.record h ho, h3⟩)
    ?assign ?body ?done ?stop
  case assign =>
    intro L pre x U K hi ho hK
    obtain ⟨a, b, c, d, hx⟩ : ∃ a b c d, W.idx [4] x = W.four a b c d := ⟨_, _, _, _, rfl⟩
    rw [hx] at hK ⊢
    have hU : V.heap.size + 1 < U.heap.size := by
      obtain ⟨o, ho⟩ := ho
      exact (Array.getElem?_eq_some_iff.1 ho).1
    have HK := Lib.hid hK
    have HII := Lib.hid hi
    clear hK hi ho
    gi_wp2
    have hba := (Below.refl U.heap.size U).alloc (Nat.le_refl _) (.cells #[.int .i64 a, .int .i64 b, .int .i64 c, .int .i64 d] 170)
    refine HK.out _ _ ((KeepsOthers.alloc _ _).from _) ⟨fun r => r.below hba, fun o ho => (hba.block _ (Array.getElem?_eq_some_iff.1 ho).1).trans ho, fun o ho => (hba.block _ (Array.getElem?_eq_some_iff.1 ho).1).trans ho⟩
      (HII.out.kept rfl hs5 (by omega) hhi hgb hAd (World.grownBy_alloc U _ none) (fun r e => by cases e)) ⟨U.heap.size, by omega, Blk.new U 170 _, rfl⟩
  case body =>
    rintro L pre x a' U ho hI ⟨g, hg, hGB, rfl⟩ ⟨rfl, hx4⟩ hU
    rw [W.sizeN4] at hx4
    rw [List.length_range] at hI
    rw [W.idx4 x hx4] at hGB ⊢
    have g0 := hGB.cell 0
    have x3 := hI.bx.b3.cell 0
    by_cases h0 : x = 0
    · subst h0
      rw [hbuf0] at hI
      replace hI := Lib.hid hI
      replace hGB := Lib.hid hGB
      replace ho := Lib.hid ho
      gi_wp2
      have hAU : U.cell? adA = some (.int .i64 4) := by
        obtain ⟨ad, h1, h2⟩ := hI.out.sh 0 (by decide)
        cases h1
        rw [add_zero] at h2
        exact h2
      have HSA := Lib.hid (fun (W' : World) (h : Below U.heap.size U W') => show W'.cell? ⟨w.heap.size + 1, 0, none⟩ = some (.slice (some ⟨gb, 0, none⟩) 4 cb) ∧ W'.cell? ⟨c1, 0, none⟩ = some (.slice (some ⟨gc, 0, none⟩) 4 cc) ∧ W'.cell? ⟨gc, 0, none⟩ = some (.int .i64 0) ∧ W'.cell? ⟨c1 + 1, 0, none⟩ = some (.int .i64 1) ∧ W'.cell? ⟨w.heap.size + 1 + 1, 1, none⟩ = some (.slice (some adA) 1 ca) ∧ W'.cell? ⟨w.heap.size + 1 + 1 + 1, 0, none⟩ = some (.int .i64 0) ∧ W'.cell? adA = some (.int .i64 4) from
        ⟨bcell h (hI.out.bx.b1.cell 0), bcell h (hI.out.cc0.cell 0), bcell h hI.out.ce, bcell h (hI.out.st.cell 0), bcell h (hI.out.bx.b2.cell 1), bcell h (hI.out.bx.b3.cell 0), bcell h hAU⟩)
      clear x3 g0
      refine wpIn_round_held (S := fun W' => W'.cell? ⟨w.heap.size + 1, 0, none⟩ = some (.slice (some ⟨gb, 0, none⟩) 4 cb) ∧ W'.cell? ⟨c1, 0, none⟩ = some (.slice (some ⟨gc, 0, none⟩) 4 cc) ∧ W'.cell? ⟨gc, 0, none⟩ = some (.int .i64 0) ∧ W'.cell? ⟨c1 + 1, 0, none⟩ = some (.int .i64 1) ∧ W'.cell? ⟨w.heap.size + 1 + 1, 1, none⟩ = some (.slice (some adA) 1 ca) ∧ W'.cell? ⟨w.heap.size + 1 + 1 + 1, 0, none⟩ = some (.int .i64 0) ∧ W'.cell? adA = some (.int .i64 4)) (by kernel_rfl) (by simp) (HSA.out _ (Below.refl _ U).drew) (fun hHeld => ?_)
      refine wpAnyH_take (i := 0) (v := ?_) (by simp only [List.getElem?_toArray, List.getElem?_cons_succ, List.getElem?_cons_zero]; rfl) (by kernel_rfl) (by kernel_rfl) (by kernel_rfl) (fun _ _ _ h => h) (Or.inl ⟨by rfl, ?_⟩) (by assumption) ?_
      rotate_left 1
      · (intro wS hSw; (try dsimp only at hSw); go_simp; (try with_reducible rfl))
      try simp only [Act.put, List.setIfInBounds_toArray, List.set_cons_zero, List.set_cons_succ]
      refine wpAnyH_take (i := 1) (v := ?_) (by simp only [List.getElem?_toArray, List.getElem?_cons_succ, List.getElem?_cons_zero]; rfl) (by kernel_rfl) (by kernel_rfl) (by kernel_rfl) (fun _ _ _ h => h) (Or.inl ⟨by rfl, ?_⟩) (by assumption) ?_
      rotate_left 1
      · (intro wS hSw; (try dsimp only at hSw); go_simp; (try with_reducible rfl))
      try simp only [Act.put, List.setIfInBounds_toArray, List.set_cons_zero, List.set_cons_succ]
      refine wpAnyH_take (i := 2) (v := ?_) (by simp only [List.getElem?_toArray, List.getElem?_cons_succ, List.getElem?_cons_zero]; rfl) (by kernel_rfl) (by kernel_rfl) (by kernel_rfl) (fun _ _ _ h => h) (Or.inl ⟨by rfl, ?_⟩) (by assumption) ?_
      rotate_left 1
      · (intro wS hSw; (try dsimp only at hSw); go_simp; (try with_reducible rfl))
      try simp only [Act.put, List.setIfInBounds_toArray, List.set_cons_zero, List.set_cons_succ]
      refine wpAnyH_take (i := 3) (v := ?_) (by simp only [List.getElem?_toArray, List.getElem?_cons_succ, List.getElem?_cons_zero]; rfl) (by kernel_rfl) (by kernel_rfl) (by kernel_rfl) (fun _ _ _ h => h) (Or.inl ⟨by rfl, ?_⟩) (by assumption) ?_
      rotate_left 1
      · (intro wS hSw; (try dsimp only at hSw); go_simp; (try with_reducible rfl))
      try simp only [Act.put, List.setIfInBounds_toArray, List.set_cons_zero, List.set_cons_succ]
      refine wpAnyH_take (i := 4) (v := ?_) (by simp only [List.getElem?_toArray, List.getElem?_cons_succ, List.getElem?_cons_zero]; rfl) (by kernel_rfl) (by kernel_rfl) (by kernel_rfl) (fun _ _ _ h => h) (Or.inl ⟨by rfl, ?_⟩) (by assumption) ?_
      rotate_left 1
      · (intro wS hSw; (try dsimp only at hSw); go_simp; (try with_reducible rfl))
      try simp only [Act.put, List.setIfInBounds_toArray, List.set_cons_zero, List.set_cons_succ]
      refine wpAnyH_take (i := 5) (v := ?_) (by simp only [List.getElem?_toArray, List.getElem?_cons_succ, List.getElem?_cons_zero]; rfl) (by kernel_rfl) (by kernel_rfl) (by kernel_rfl) (fun _ _ _ h => h) (Or.inl ⟨by rfl, ?_⟩) (by assumption) ?_
      rotate_left 1
      · (intro wS hSw; (try dsimp only at hSw); go_simp; (try with_reducible rfl))
      try simp only [Act.put, List.setIfInBounds_toArray, List.set_cons_zero, List.set_cons_succ]
      refine wpAnyH_take (i := 6) (v := ?_) (by simp only [List.getElem?_toArray, List.getElem?_cons_succ, List.getElem?_cons_zero]; rfl) (by kernel_rfl) (by kernel_rfl) (by kernel_rfl) (fun _ _ _ h => h) (Or.inl ⟨by rfl, ?_⟩) (by assumption) ?_
      rotate_left 1
      · (intro wS hSw; (try dsimp only at hSw); go_simp; (try with_reducible rfl))
      try simp only [Act.put, List.setIfInBounds_toArray, List.set_cons_zero, List.set_cons_succ]
      refine wpAnyH_take (i := 7) (v := ?_) (by simp only [List.getElem?_toArray, List.getElem?_cons_succ, List.getElem?_cons_zero]; rfl) (by kernel_rfl) (by kernel_rfl) (by kernel_rfl) (fun _ _ _ h => h) (Or.inl ⟨by rfl, ?_⟩) (by assumption) ?_
      rotate_left 1
      · (intro wS hSw; (try dsimp only at hSw); go_simp; (try with_reducible rfl))
      try simp only [Act.put, List.setIfInBounds_toArray, List.set_cons_zero, List.set_cons_succ]
      refine wpAnyH_take (i := 8) (v := ?_) (by simp only [List.getElem?_toArray, List.getElem?_cons_succ, List.getElem?_cons_zero]; rfl) (by kernel_rfl) (by kernel_rfl) (by kernel_rfl) (fun _ _ _ h => h) (Or.inl ⟨by rfl, ?_⟩) (by assumption) ?_
      rotate_left 1
      · (intro wS hSw; (try dsimp only at hSw); go_simp; (try with_reducible rfl))
      try simp only [Act.put, List.setIfInBounds_toArray, List.set_cons_zero, List.set_cons_succ]
      refine wpAnyH_take (i := 9) (v := ?_) (by simp only [List.getElem?_toArray, List.getElem?_cons_succ, List.getElem?_cons_zero]; rfl) (by kernel_rfl) (by kernel_rfl) (by kernel_rfl) (fun _ _ _ h => h) (Or.inl ⟨by rfl, ?_⟩) (by assumption) ?_
      rotate_left 1
      · (intro wS hSw; (try dsimp only at hSw); go_simp; (try with_reducible rfl))
      try simp only [Act.put, List.setIfInBounds_toArray, List.set_cons_zero, List.set_cons_succ]
      refine wpAnyH_take (i := 10) (v := ?_) (by simp only [List.getElem?_toArray, List.getElem?_cons_succ, List.getElem?_cons_zero]; rfl) (by kernel_rfl) (by kernel_rfl) (by kernel_rfl) (fun _ _ _ h => h) (Or.inl ⟨by rfl, ?_⟩) (by assumption) ?_
      rotate_left 1
      · (intro wS hSw; (try dsimp only at hSw); go_simp; (try with_reducible rfl))
      try simp only [Act.put, List.setIfInBounds_toArray, List.set_cons_zero, List.set_cons_succ]
      refine wpAnyH_take (i := 11) (v := ?_) (by simp only [List.getElem?_toArray, List.getElem?_cons_succ, List.getElem?_cons_zero]; rfl) (by kernel_rfl) (by kernel_rfl) (by kernel_rfl) (fun _ _ _ h => h) (Or.inl ⟨by rfl, ?_⟩) (by assumption) ?_
      rotate_left 1
      · (intro wS hSw; (try dsimp only at hSw); go_simp; (try with_reducible rfl))
      try simp only [Act.put, List.setIfInBounds_toArray, List.set_cons_zero, List.set_cons_succ]
      refine wpAnyH_ready (rs := [12]) (by kernel_rfl) (by simp) ?_
      refine AllReadyH.cons (by simp only [List.getElem?_toArray, List.getElem?_cons_succ, List.getElem?_cons_zero]; rfl) (fun K hK => ?_) ?_
      · go_simp
        refine hK.out _ _ (HSA.out _ ((Below.refl _ U).alloc (Nat.le_refl _) _).drew) (fun hH1 => ?_)
        clear hK K hHeld
        try simp only [Act.put, List.setIfInBounds_toArray, List.set_cons_zero, List.set_cons_succ]
        refine wpAnyH_ready (rs := [13]) (by kernel_rfl) (by simp) ?_
        refine AllReadyH.cons (by simp only [List.getElem?_toArray, List.getElem?_cons_succ, List.getElem?_cons_zero]; rfl) (fun K hK => ?_) ?_
        · go_simp
          refine hK.out _ _ (HSA.out _ ((Below.refl _ U).alloc (Nat.le_refl _) _).drew) (fun hH2 => ?_)
          clear hK K hH1
          try simp only [Act.put, List.setIfInBounds_toArray, List.set_cons_zero, List.set_cons_succ]
          refine wpAnyH_done (by kernel_rfl) ?_ _
          refine OnlyNormal.normal ?_
          clear hH2 HSA hAU
          have HK1 := Lib.hid (show Blk (U.alloc (.cells #[.slice (some ⟨gb, 0, none⟩) 4 cb, .int .i64 0, .int .i64 1, .int .i64 4] 173)).drew U.heap.size 173 #[.slice (some ⟨gb, 0, none⟩) 4 cb, .int .i64 0, .int .i64 1, .int .i64 4] from Blk.new U 173 _)
          have hbU := ((Below.refl U.heap.size U).alloc (Nat.le_refl _) (.cells #[.slice (some ⟨gb, 0, none⟩) 4 cb, .int .i64 0, .int .i64 1, .int .i64 4] 173)).drew
          have HI1 := Lib.hid (hI.out.kept rfl hs5 (by omega) hhi hgb hAd (⟨hbU.os, hbU.tape, hbU.output, hbU.size, fun i hi _ => hbU.block i hi⟩ : U.grownBy _ none) (fun r e => by cases e))
          have HbU := Lib.hid hbU
          clear hbU
          have hul : c1 + 5 < U.heap.size := by omega
          generalize (U.alloc (.cells #[.slice (some ⟨gb, 0, none⟩) 4 cb, .int .i64 0, .int .i64 1, .int .i64 4] 173)).drew = X at *
          generalize hu : U.heap.size = u at *
          have HSB := Lib.hid (fun (W' : World) (h : Below X.heap.size X W') => show W'.cell? ⟨w.heap.size, 0, none⟩ = some (.pointer (some ⟨gf, 0, none⟩)) ∧ (W'.cell? ⟨w.heap.size + 1 + 1 + 1 + 1, 0, none⟩ = some (.int .i64 0) ∧ W'.cell? ⟨w.heap.size + 1 + 1 + 1 + 1, 1, none⟩ = some (.int .i64 4) ∧ W'.cell? ⟨w.heap.size + 1 + 1 + 1 + 1, 2, none⟩ = some (.int .i64 0)) ∧ W'.cell? ⟨w.heap.size + 1 + 1 + 1 + 1 + 1, 0, none⟩ = some (.bool false) ∧ (W'.cell? ⟨u, 0, none⟩ = some (.slice (some ⟨gb, 0, none⟩) 4 cb) ∧ W'.cell? ⟨u, 1, none⟩ = some (.int .i64 0) ∧ W'.cell? ⟨u, 2, none⟩ = some (.int .i64 1) ∧ W'.cell? ⟨u, 3, none⟩ = some (.int .i64 4)) from
            ⟨bcell h (HI1.out.bx.b0.cell 0), ⟨bcell h (HI1.out.bx.b4.cell 0), bcell h (HI1.out.bx.b4.cell 1), bcell h (HI1.out.bx.b4.cell 2)⟩, bcell h (HI1.out.bx.b5.cell 0), ⟨bcell h (HK1.out.cell 0), bcell h (HK1.out.cell 1), bcell h (HK1.out.cell 2), bcell h (HK1.out.cell 3)⟩⟩)
          gi_wp2
          refine wpIn_round_held (S := fun W' => W'.cell? ⟨w.heap.size, 0, none⟩ = some (.pointer (some ⟨gf, 0, none⟩)) ∧ (W'.cell? ⟨w.heap.size + 1 + 1 + 1 + 1, 0, none⟩ = some (.int .i64 0) ∧ W'.cell? ⟨w.heap.size + 1 + 1 + 1 + 1, 1, none⟩ = some (.int .i64 4) ∧ W'.cell? ⟨w.heap.size + 1 + 1 + 1 + 1, 2, none⟩ = some (.int .i64 0)) ∧ W'.cell? ⟨w.heap.size + 1 + 1 + 1 + 1 + 1, 0, none⟩ = some (.bool false) ∧ (W'.cell? ⟨u, 0, none⟩ = some (.slice (some ⟨gb, 0, none⟩) 4 cb) ∧ W'.cell? ⟨u, 1, none⟩ = some (.int .i64 0) ∧ W'.cell? ⟨u, 2, none⟩ = some (.int .i64 1) ∧ W'.cell? ⟨u, 3, none⟩ = some (.int .i64 4))) (by kernel_rfl) (by simp) (HSB.out _ (Below.refl _ X).drew) (fun hHeld => ?_)
          refine wpAnyH_take (i := 0) (v := ?_) (by simp only [List.getElem?_toArray, List.getElem?_cons_succ, List.getElem?_cons_zero]; rfl) (by kernel_rfl) (by kernel_rfl) (by kernel_rfl) (fun _ _ _ h => h) (Or.inl ⟨by rfl, ?_⟩) (by assumption) ?_
          rotate_left 1
          · (intro wS hSw; (try dsimp only at hSw); go_simp; (try with_reducible rfl))
          try simp only [Act.put, List.setIfInBounds_toArray, List.set_cons_zero, List.set_cons_succ]
          refine wpAnyH_take (i := 1) (v := ?_) (by simp only [List.getElem?_toArray, List.getElem?_cons_succ, List.getElem?_cons_zero]; rfl) (by kernel_rfl) (by kernel_rfl) (by kernel_rfl) (fun _ _ _ h => h) (Or.inl ⟨by rfl, ?_⟩) (by assumption) ?_
          rotate_left 1
          · (intro wS hSw; (try dsimp only at hSw); go_simp; (try with_reducible rfl))
          try simp only [Act.put, List.setIfInBounds_toArray, List.set_cons_zero, List.set_cons_succ]
          refine wpAnyH_take (i := 2) (v := ?_) (by simp only [List.getElem?_toArray, List.getElem?_cons_succ, List.getElem?_cons_zero]; rfl) (by kernel_rfl) (by kernel_rfl) (by kernel_rfl) (fun _ _ _ h => h) (Or.inl ⟨by rfl, ?_⟩) (by assumption) ?_
          rotate_left 1
          · (intro wS hSw; (try dsimp only at hSw); go_simp; (try with_reducible rfl))
          try simp only [Act.put, List.setIfInBounds_toArray, List.set_cons_zero, List.set_cons_succ]
          refine wpAnyH_take (i := 4) (v := ?_) (by simp only [List.getElem?_toArray, List.getElem?_cons_succ, List.getElem?_cons_zero]; rfl) (by kernel_rfl) (by kernel_rfl) (by kernel_rfl) (fun _ _ _ h => h) (Or.inl ⟨by rfl, ?_⟩) (by assumption) ?_
          rotate_left 1
          · (intro wS hSw; (try dsimp only at hSw); go_simp; (try with_reducible rfl))
          try simp only [Act.put, List.setIfInBounds_toArray, List.set_cons_zero, List.set_cons_succ]
          refine wpAnyH_ready (rs := [3]) (by kernel_rfl) (by simp) ?_
          refine AllReadyH.cons (by simp only [List.getElem?_toArray, List.getElem?_cons_succ, List.getElem?_cons_zero]; rfl) (fun K hK => ?_) ?_
          · go_simp
            refine (take_4 gb cb Bb bs X.drew HI1.out.bu hl).mono ?_
            rintro e w3 ⟨g3, rfl, ho3, hb3⟩
            have hb3' : Below X.heap.size X w3 := ((Below.refl X.heap.size X).drew).trans hb3
            refine hK.out _ _ (HSB.out _ hb3') (fun hH3 => ?_)
            clear hK K hHeld
            try simp only [Act.put, List.setIfInBounds_toArray, List.set_cons_zero, List.set_cons_succ]
            have CR := Lib.hid (pRun_4 gf (some ⟨g3, 0, none⟩) 4 (zs4 bs) w3 (HI1.out.fb.fd.below hb3') (riL_of ho3) (by simp [zs4]) (fun j hj => by rw [zs4_get bs j hj]; exact HBD.out j hj))
            have HB3 := Lib.hid hb3'
            clear hb3 hb3' ho3
            refine wpAnyH_ready (rs := [5]) (by kernel_rfl) (by simp) ?_
            refine AllReadyH.cons (by simp only [List.getElem?_toArray, List.getElem?_cons_succ, List.getElem?_cons_zero]; rfl) (fun K hK => ?_) ?_
            · go_simp
              refine CR.out.mono ?_
              rintro e w4 ⟨g4, c4, rfl, ho4, hb4⟩
              have hb4' : Below X.heap.size X w4 := below_then HB3.out HB3.out.size hb4
              refine hK.out _ _ (HSB.out _ hb4') (fun hH4 => ?_)
              clear hK K hH3
              try simp only [Act.put, List.setIfInBounds_toArray, List.set_cons_zero, List.set_cons_succ]
              have HB4 := Lib.hid hb4'
              have HO4 := Lib.hid ho4
              have HG4 := ho4.base.1
              have HS3 := HB3.out.size
              clear hb4 hb4' ho4 CR HB3
              refine wpAnyH_take (i := 6) (v := ?_) (by simp only [List.getElem?_toArray, List.getElem?_cons_succ, List.getElem?_cons_zero]; rfl) (by kernel_rfl) (by kernel_rfl) (by kernel_rfl) (fun _ _ _ h => h) (Or.inl ⟨by rfl, ?_⟩) (by assumption) ?_
              rotate_left 1
              · (intro wS hSw; (try dsimp only at hSw); go_simp; (try with_reducible rfl))
              try simp only [Act.put, List.setIfInBounds_toArray, List.set_cons_zero, List.set_cons_succ]
              refine wpAnyH_take (i := 7) (v := ?_) (by simp only [List.getElem?_toArray, List.getElem?_cons_succ, List.getElem?_cons_zero]; rfl) (by kernel_rfl) (by kernel_rfl) (by kernel_rfl) (fun _ _ _ h => h) (Or.inl ⟨by rfl, ?_⟩) (by assumption) ?_
              rotate_left 1
              · (intro wS hSw; (try dsimp only at hSw); go_simp; (try with_reducible rfl))
              try simp only [Act.put, List.setIfInBounds_toArray, List.set_cons_zero, List.set_cons_succ]
              refine wpAnyH_take (i := 8) (v := ?_) (by simp only [List.getElem?_toArray, List.getElem?_cons_succ, List.getElem?_cons_zero]; rfl) (by kernel_rfl) (by kernel_rfl) (by kernel_rfl) (fun _ _ _ h => h) (Or.inl ⟨by rfl, ?_⟩) (by assumption) ?_
              rotate_left 1
              · (intro wS hSw; (try dsimp only at hSw); go_simp; (try with_reducible rfl))
              try simp only [Act.put, List.setIfInBounds_toArray, List.set_cons_zero, List.set_cons_succ]
              refine wpAnyH_take (i := 9) (v := ?_) (by simp only [List.getElem?_toArray, List.getElem?_cons_succ, List.getElem?_cons_zero]; rfl) (by kernel_rfl) (by kernel_rfl) (by kernel_rfl) (fun _ _ _ h => h) (Or.inl ⟨by rfl, ?_⟩) (by assumption) ?_
              rotate_left 1
              · (intro wS hSw; (try dsimp only at hSw); go_simp; (try with_reducible rfl))
              try simp only [Act.put, List.setIfInBounds_toArray, List.set_cons_zero, List.set_cons_succ]
              refine wpAnyH_take (i := 10) (v := ?_) (by simp only [List.getElem?_toArray, List.getElem?_cons_succ, List.getElem?_cons_zero]; rfl) (by kernel_rfl) (by kernel_rfl) (by kernel_rfl) (fun _ _ _ h => h) (Or.inl ⟨by rfl, ?_⟩) (by assumption) ?_
              rotate_left 1
              · (intro wS hSw; (try dsimp only at hSw); go_simp; (try with_reducible rfl))
              try simp only [Act.put, List.setIfInBounds_toArray, List.set_cons_zero, List.set_cons_succ]
              refine wpAnyH_done (by kernel_rfl) ?_ _
              refine OnlyNormal.normal ?_
              clear hH4 HSB
              have hXu : u < X.heap.size := HK1.out.lt
              have k0 := bcell HB4.out (HK1.out.cell 0)
              have k1 := bcell HB4.out (HK1.out.cell 1)
              have k2 := bcell HB4.out (HK1.out.cell 2)
              have k3 := bcell HB4.out (HK1.out.cell 3)
              have CL := Lib.hid (lay_4 gb cb Bb g4 c4 w3.heap.size bs _ w4 (OI.below HI1.out.bu HB4.out) hl HO4.out (by simp) (by omega) (by have := HB4.out.size; omega))
              gi_wp2
              refine ⟨trivial, ?_⟩
              refine (callsIn_round CL.out).mono ?_
              rintro e w5 ⟨rfl, ho5, hf5⟩
              have hF : Fr (fun i => i = gb) U w5 := ((Fr.of_below (fun i => i = gb) (show Below U.heap.size U X by rw [hu]; exact HbU.out)).trans (Fr.of_below _ HB4.out)).trans hf5
              have HFU := Lib.hid hF
              have HO5 := Lib.hid ho5
              clear hF hf5 ho5 k0 k1 k2 k3 CL
              gi_wp2
              refine ⟨HFU.out.keepsFrom (fun i hi => by omega), ⟨fun r => W.RI.frS r HFU.out (fun ad e _ => hA ad e), fun o ho => HFU.out.heap ho (by omega), fun o ho => HFU.out.heap ho (by omega)⟩, ?_⟩
              show AlI _ _ _ _ _ _ _ _ _ _ _ _ _ _ _ _ (buf (0 + 1))
              rw [hbuf1]
              exact ⟨hI.out.bx.fr HFU.out (fun i h1 h2 => by omega), HFU.out.blk hI.out.cc0 (by omega), HFU.out.blk hI.out.st (by omega), HFU.out.cell hI.out.ce (show ¬ gc = gb by omega), W.RI.frS hI.out.sh HFU.out (fun ad e _ => hA ad e),
                hI.out.fb.fr HFU.out (fun i h1 h2 => by omega), HO5.out, hI.out.fr.trans HFU.out⟩
            exact AllReadyH.nil
          exact AllReadyH.nil
        exact AllReadyH.nil
      exact AllReadyH.nil
    · have e : buf x = buf (x + 1) := by
        cases x with
        | zero => exact absurd rfl h0
        | succ j => rw [hbuf1, hbuf1]
      rw [e] at hI
      have h1 : ((x : Int) != 0) = true := by simp; omega
      have h2 : ((x : Int) == 0) = false := by simp; omega
      have h3 : decide ((x : Int) = 0) = false := by simp; omega
      replace hI := Lib.hid hI
      replace hGB := Lib.hid hGB
      replace ho := Lib.hid ho
      gi_wp2
      refine ⟨KeepsFrom.refl _ _, ⟨fun r => r, fun o h => h, fun o h => h⟩, ?_⟩
      show AlI _ _ _ _ _ _ _ _ _ _ _ _ _ _ _ _ (buf (List.range x ++ [x]).length)
      rw [List.length_append, List.length_range]
      exact hI.out
  case done =>
    rintro D xs U hD rfl hI hm
    rw [W.sizeN4] at hI
    replace hI : AlI w.heap.size c1 gc cc gf gb cb Bb lo hi (some adA) (some adB) ca cv w U (buf (3 + 1)) := hI
    rw [hbuf1] at hI
    replace hI := Lib.hid hI
    replace hm := Lib.hid hm
    gi_wp2
    refine ⟨by simp, .inl ⟨_, _, rfl, run_takeDeferred hm.out, ?_⟩⟩
    exact ⟨_, results_none rfl _ _ _, rfl, OI.kept hI.out.bu (grownBy_putObj' U D (.deferred none)) (fun g hv e => by
      have : g = gb := by simpa [Value.ownBlock] using hv.symm
      cases e; omega), hI.out.fr.or (Fr.of_grown (S := fun i => i = D) (grownBy_putObj' U D (.deferred none)) (fun r e => (Option.some.inj e).symm)) (fun i _ h => h) (fun i hi h => by omega)⟩
  case stop =>
    rintro D c pre U hD _ h hm
    exact h.elim
end Go.Proofs.YtpkpadepccneeaaGreatDoor

/- The walk of axes.choose on one axis of 4, stride 1, a new cache, the field of 5, way -1. No condition. -/
namespace Go.Proofs.YtpkpadepccneeaaGreatDoor
set_option linter.unusedVariables false
set_option linter.unusedSimpArgs false
open Go Go.RowKit Go.Shelf Go.Maps
theorem info54 : (Tryz.prog.info? 54).map (fun i => (i.zero, i.size, i.bytes)) = some (some (.agg #[.int .i64 0, .int .i64 0, .int .i64 0]), 3, 24) := by kernel_rfl
set_option maxRecDepth 100000 in
set_option maxHeartbeats 4000000 in
theorem axChoose_4 (c m n gf lo hi gx : Nat) (adA adB : Addr) (ca cv cx : Nat) (w : World) (hf : FB lo hi w gf 5 2) (hr : RI .i64 w (some adA) [4]) (hs : RI .i64 w (some adB) [1]) (hx : w.cell? ⟨gx, 0, none⟩ = some (.int .i64 0))
    (hc : Blk w c 112 (cacheCs 1 (.slice none 0 0) m 0 0)) (hm : KM w m n (.map [])) (hn : n < 1000) (hcm : c ≠ m) (hlc : c < lo ∨ hi ≤ c) (hlm : m < lo ∨ hi ≤ m) (hhi : hi ≤ w.heap.size) (hAcm : adA.block ≠ c ∧ adA.block ≠ m) :
    Calls Tryz.prog 37 #[.pointer (some ⟨gf, 0, none⟩), .pointer (some ⟨c, 0, none⟩), .int .i64 4, .agg #[.int .i64 0, .slice (some adA) 1 ca, .slice (some adB) 1 cv, .slice (some ⟨gx, 0, none⟩) 1 cx, .int .i64 (-1), .bool false]] w fun e w' =>
      ∃ g c', e = .returned (.tuple #[.slice (some ⟨g, 0, none⟩) 1 c', .int .i64 0]) ∧ w.heap.size ≤ g ∧ (w'.cell? ⟨g, 0, none⟩ = some (.int .i64 0) ∧ w'.cell? ⟨g, 1, none⟩ = some (.int .i64 4) ∧ w'.cell? ⟨g, 2, none⟩ = some (.int .i64 0)) ∧
        (∃ A cap, Blk w' c 112 (cacheCs 1 (.slice A 1 cap) m 0 1)) ∧ Fr (fun i => i = c ∨ i = m) w w' := by
  have HB0 := Lib.hid ((Below.refl w.heap.size w).alloc (Nat.le_refl _) (.cells #[.int .i64 0, .slice (some adA) 1 ca, .slice (some adB) 1 cv, .slice (some ⟨gx, 0, none⟩) 1 cx, .int .i64 (-1), .bool false] 44))
  have K0 := Lib.hid (Blk.new w 44 #[.int .i64 0, .slice (some adA) 1 ca, .slice (some adB) 1 cv, .slice (some ⟨gx, 0, none⟩) 1 cx, .int .i64 (-1), .bool false])
  have CC := Lib.hid (W.Check_any 0 (some adA) (some adB) ca cv [4] [1] 4 (w.alloc (.cells #[.int .i64 0, .slice (some adA) 1 ca, .slice (some adB) 1 cv, .slice (some ⟨gx, 0, none⟩) 1 cx, .int .i64 (-1), .bool false] 44)) (hr.below HB0.out) (hs.below HB0.out) (by decide) (by decide))
  have CC' := CC.out
  rw [W.check4 4 (by decide) (by decide)] at CC'
  have CC2 := Lib.hid (show Calls Tryz.prog 75 #[.agg #[.int .i64 0, .slice (some adA) 1 ca, .slice (some adB) 1 cv], .int .i64 4] (w.alloc (.cells #[.int .i64 0, .slice (some adA) 1 ca, .slice (some adB) 1 cv, .slice (some ⟨gx, 0, none⟩) 1 cx, .int .i64 (-1), .bool false] 44)) _ from CC')
  have d0 := K0.out.cell 0
  have d1 := K0.out.cell 1
  have d2 := K0.out.cell 2
  clear CC CC'
  go_enter Tryz.func37, Tryz.ntmps37
  go_wp2_with fail
  with_reducible refine (CC2.out).mono ?_
  rintro e w1 ⟨rfl, hb1⟩
  have HB1 := Lib.hid (below_then HB0.out HB0.out.size hb1)
  have K1 := Lib.hid (K0.out.below hb1 K0.out.lt)
  have CE := Lib.hid (fun W => Tryz.slices_Contains_int_empty (some ⟨gx, 0, none⟩) cx 0 W)
  have e1 := K1.out.cell 1
  have e2 := K1.out.cell 2
  have e3 := K1.out.cell 3
  have x1 := bcell HB1.out hx
  clear hb1 d0 d1 d2
  go_wp2_with fail
  refine wp_loop_rounds 3 ?_
  rw [rounds_succ]
  go_wp2_with fail
  refine (CE.out _).mono ?_
  rintro e w2 ⟨rfl, rfl⟩
  go_wp2_with fail
  rw [rounds_succ]
  go_wp2_with fail
  refine wp_loop_rounds 3 ?_
  rw [rounds_succ]
  go_wp2_with fail
  have hA0 : w2.cell? adA = some (.int .i64 4) := by
    obtain ⟨ad, h1, h2⟩ := hr.below HB1.out 0 (by decide)
    cases h1
    rw [add_zero] at h2
    exact h2
  have e4 : w2.cell? ⟨w.heap.size, 4, none⟩ = some (.int .i64 (-1)) := K1.out.cell 4
  have e1' : w2.cell? ⟨w.heap.size, 1, none⟩ = some (.slice (some adA) 1 ca) := e1
  have hKM : KM w2 m n (.map []) := (Fr.of_below (fun _ => False) HB1.out).map hm (fun h => h)
  have hz := (Below.refl w2.heap.size w2).alloc (Nat.le_refl _) (.cells #[.int .i64 0, .int .i64 0, .int .i64 0] 54)
  have G1 := Lib.hid (cacheChoose_4 c m n gf lo hi w2.drew (hf.below HB1.out.drew) (hc.below HB1.out.drew hc.lt) hKM hn hcm hlc hlm (Nat.le_trans hhi HB1.out.size))
  have G2 := Lib.hid (cacheChoose_4 c m n gf lo hi (w2.alloc (.cells #[.int .i64 0, .int .i64 0, .int .i64 0] 54)).drew ((hf.below HB1.out).below hz.drew) ((hc.below HB1.out hc.lt).below hz.drew (hc.below HB1.out hc.lt).lt) (World.ownsMap.alloc hKM _) hn hcm hlc hlm (Nat.le_trans (Nat.le_trans hhi HB1.out.size) hz.size))
  have HZ := Lib.hid hz
  have hcw := hc.lt
  have hmw : m < w.heap.size := World.ownsMap.lt hm
  have hws : w.heap.size < w2.heap.size := K1.out.lt
  have hAw : adA.block < w2.heap.size := World.block_lt_of_cell? _ _ hA0
  have KZ := Lib.hid (Blk.new w2 54 #[.int .i64 0, .int .i64 0, .int .i64 0])
  clear hz hKM hf hc hm hr hs e1 e2 e3 x1
  have hS : w2.cell? ⟨w.heap.size, 1, none⟩ = some (.slice (some adA) 1 ca) ∧ w2.cell? ⟨w.heap.size, 4, none⟩ = some (.int .i64 (-1)) ∧ w2.cell? adA = some (.int .i64 4) := ⟨e1', e4, hA0⟩
  have Hkeep := Lib.hid (fun (X Y : World) (hF : Fr (fun i => i = c ∨ i = m) X Y) (h : X.cell? ⟨w.heap.size, 1, none⟩ = some (.slice (some adA) 1 ca) ∧ X.cell? ⟨w.heap.size, 4, none⟩ = some (.int .i64 (-1)) ∧ X.cell? adA = some (.int .i64 4)) =>
    show Y.cell? ⟨w.heap.size, 1, none⟩ = some (.slice (some adA) 1 ca) ∧ Y.cell? ⟨w.heap.size, 4, none⟩ = some (.int .i64 (-1)) ∧ Y.cell? adA = some (.int .i64 4) from
      ⟨hF.cell h.1 (by show ¬ (w.heap.size = c ∨ w.heap.size = m); omega), hF.cell h.2.1 (by show ¬ (w.heap.size = c ∨ w.heap.size = m); omega), hF.cell h.2.2 (by show ¬ (adA.block = c ∨ adA.block = m); omega)⟩)
  have hS2 : (w2.alloc (.cells #[.int .i64 0, .int .i64 0, .int .i64 0] 54)).cell? ⟨w.heap.size, 1, none⟩ = some (.slice (some adA) 1 ca) ∧ (w2.alloc (.cells #[.int .i64 0, .int .i64 0, .int .i64 0] 54)).cell? ⟨w.heap.size, 4, none⟩ = some (.int .i64 (-1)) ∧ (w2.alloc (.cells #[.int .i64 0, .int .i64 0, .int .i64 0] 54)).cell? adA = some (.int .i64 4) :=
    ⟨bcell HZ.out e1', bcell HZ.out e4, bcell HZ.out hA0⟩
  have hwc : ¬ (w2.heap.size = c ∨ w2.heap.size = m) := by omega
  have hne1 : ¬ w2.heap.size = w.heap.size := by omega
  have hne2 : ¬ w2.heap.size = adA.block := by omega
  have hne3 : ¬ w.heap.size = w2.heap.size := by omega
  have hne4 : ¬ adA.block = w2.heap.size := by omega
  go_region_held3 (fun w' => w'.cell? ⟨w.heap.size, 1, none⟩ = some (.slice (some adA) 1 ca) ∧ w'.cell? ⟨w.heap.size, 4, none⟩ = some (.int .i64 (-1)) ∧ w'.cell? adA = some (.int .i64 4)) (first | exact hS | exact hS2 | exact hT | go_keep)
    (first
    | (go_at_call 77; refine G1.out.mono ?_; rintro e w3 ⟨rfl, ⟨A3, cp3, hc3⟩, hf3⟩; (have hT := Hkeep.out _ _ hf3 hS))
    | (go_at_call 77; refine G2.out.mono ?_; rintro e w3 ⟨rfl, ⟨A3, cp3, hc3⟩, hf3⟩; (have hT := Hkeep.out _ _ hf3 hS2); (have KZ3 := Lib.hid (Fr.blk hf3 (show Blk (w2.alloc (.cells #[.int .i64 0, .int .i64 0, .int .i64 0] 54)).drew w2.heap.size 54 _ from KZ.out) hwc)); have t0 := KZ3.out.cell 0; have t1 := KZ3.out.cell 1; have t2 := KZ3.out.cell 2; have t3 := KZ3.out.frozen 0; have t4 := KZ3.out.frozen 1; have t5 := KZ3.out.frozen 2))
  · have KP0 := Blk.new w3 54 #[.int .i64 0, .int .i64 4, .int .i64 0]
    have KP := Lib.hid KP0
    have FA3 := (Below.refl w3.heap.size w3).alloc (Nat.le_refl _) (.cells #[.int .i64 0, .int .i64 4, .int .i64 0] 54)
    have CY := Lib.hid (hc3.below FA3 hc3.lt)
    have FY := Lib.hid (((Fr.of_below (fun i => i = c ∨ i = m) HB1.out.drew).trans hf3).trans (Fr.of_below _ FA3))
    have SY : w.heap.size ≤ (w3.alloc (.cells #[.int .i64 0, .int .i64 4, .int .i64 0] 54)).heap.size := FY.out.size
    clear KP0 FA3
    generalize w3.alloc (.cells #[.int .i64 0, .int .i64 4, .int .i64 0] 54) = Y at *
    generalize w3.heap.size = gz at *
    have y0 := KP.out.cell 0
    have y1 := KP.out.cell 1
    have y2 := KP.out.cell 2
    go_wp2_with (at_builtin; refine wpList_appendX1 rfl (.tmp 78) (.tmp 80) 102 rfl (fun _ : Unit => [.int .i64 0, .int .i64 4, .int .i64 0]) 3 Y.heap.size 54 (.agg #[.int .i64 0, .int .i64 0, .int .i64 0]) 24 Tryz.underlying102 info54 (by decide) rfl (by decide) (.slice none 0 0) [] () #[.int .i64 0, .int .i64 4, .int .i64 0] rfl rfl rfl (OX.nil _ _ _ _ _) rfl (by intro u hu; simp at hu; rcases hu with rfl | rfl | rfl <;> rfl) (by simp) (Nat.le_refl _) ?_; intro v w5 ho hb hs; have HO5 := Lib.hid ho; have HB5 := Lib.hid hb; clear ho hb hs)
    rcases HO5.out.form (fun x => rfl) with ⟨_, h0⟩ | ⟨ga, c5, rfl, q1, q2, q3, q4, q5⟩
    · cases h0
    have Q5 := Lib.hid q5
    clear q5
    go_wp2_with fail
    rw [rounds_succ]
    go_wp2_with fail
    go_ret2
    exact ⟨ga, c5, rfl, by omega, ⟨Q5.out 0 0 (by decide) (by decide), Q5.out 0 1 (by decide) (by decide), Q5.out 0 2 (by decide) (by decide)⟩, ⟨_, _, CY.out.below HB5.out CY.out.lt⟩, FY.out.trans (Fr.of_below _ HB5.out)⟩
  · obtain ⟨KP0, FP0⟩ := put3 (Fr.blk hf3 (show Blk (w2.alloc (.cells #[.int .i64 0, .int .i64 0, .int .i64 0] 54)).drew w2.heap.size 54 #[.int .i64 0, .int .i64 0, .int .i64 0] from KZ.out) hwc) (.int .i64 0) (.int .i64 4) (.int .i64 0)
    have KP := Lib.hid KP0
    have CY := Lib.hid (FP0.blk hc3 (by omega))
    have FY := Lib.hid ((((Fr.of_below (fun i => i = c ∨ i = m) HB1.out).trans (Fr.of_below _ HZ.out.drew)).trans hf3).or FP0 (U := fun i => i = c ∨ i = m) (fun i _ h => h) (fun i hi h => by omega))
    have SY : w.heap.size ≤ (((w3.setCell ⟨w2.heap.size, 0, none⟩ (.int .i64 0)).setCell ⟨w2.heap.size, 1, none⟩ (.int .i64 4)).setCell ⟨w2.heap.size, 2, none⟩ (.int .i64 0)).heap.size := FY.out.size
    clear KP0 FP0
    generalize ((w3.setCell ⟨w2.heap.size, 0, none⟩ (.int .i64 0)).setCell ⟨w2.heap.size, 1, none⟩ (.int .i64 4)).setCell ⟨w2.heap.size, 2, none⟩ (.int .i64 0) = Y at *
    generalize w2.heap.size = gz at *
    have y0 := KP.out.cell 0
    have y1 := KP.out.cell 1
    have y2 := KP.out.cell 2
    go_wp2_with (at_builtin; refine wpList_appendX1 rfl (.tmp 78) (.tmp 80) 102 rfl (fun _ : Unit => [.int .i64 0, .int .i64 4, .int .i64 0]) 3 Y.heap.size 54 (.agg #[.int .i64 0, .int .i64 0, .int .i64 0]) 24 Tryz.underlying102 info54 (by decide) rfl (by decide) (.slice none 0 0) [] () #[.int .i64 0, .int .i64 4, .int .i64 0] rfl rfl rfl (OX.nil _ _ _ _ _) rfl (by intro u hu; simp at hu; rcases hu with rfl | rfl | rfl <;> rfl) (by simp) (Nat.le_refl _) ?_; intro v w5 ho hb hs; have HO5 := Lib.hid ho; have HB5 := Lib.hid hb; clear ho hb hs)
    rcases HO5.out.form (fun x => rfl) with ⟨_, h0⟩ | ⟨ga, c5, rfl, q1, q2, q3, q4, q5⟩
    · cases h0
    have Q5 := Lib.hid q5
    clear q5
    go_wp2_with fail
    rw [rounds_succ]
    go_wp2_with fail
    go_ret2
    exact ⟨ga, c5, rfl, by omega, ⟨Q5.out 0 0 (by decide) (by decide), Q5.out 0 1 (by decide) (by decide), Q5.out 0 2 (by decide) (by decide)⟩, ⟨_, _, CY.out.below HB5.out CY.out.lt⟩, FY.out.trans (Fr.of_below _ HB5.out)⟩
end Go.Proofs.YtpkpadepccneeaaGreatDoor

/- The walk of axes.Run on one axis of 4, stride 1, a new cache, the field of 5, way -1, forwards. No condition. -/
namespace Go.Proofs.YtpkpadepccneeaaGreatDoor
set_option linter.unusedVariables false
set_option linter.unusedSimpArgs false
open Go Go.RowKit Go.Shelf Go.Maps
theorem OI.fr {k : IntKind} {e : TypeId} {w w1 : World} {B : Nat} {v : Value} {l : List Int} {S : Nat → Prop} (h : OI k e w B v l) (hf : Fr S w w1) (hS : ∀ g, v.ownBlock = Option.some g → ¬ S g) : OI k e w1 B v l := by
  refine ⟨h.1, ?_⟩
  rcases h.2 with h1 | ⟨g, cap, cur, rfl, h2, hh, h3⟩
  · exact .inl h1
  · exact .inr ⟨g, cap, cur, rfl, h2, hf.heap hh (hS g rfl), h3⟩
theorem OL.fr {w w1 : World} {B g c : Nat} {ys : List Nat} {S : Nat → Prop} (h : OL w B g c ys) (hf : Fr S w w1) (hS : ¬ S g) : OL w1 B g c ys :=
  OI.fr h hf fun g' hv => by
    have : g = g' := by simpa [Value.ownBlock] using hv
    subst this; exact hS
/-- The transform of four numbers in the field of 5. -/
def done4 (bs : List Nat) : List Nat := layL bs ((List.range 4).map fun i => dot 5 2 ((List.range 4).map fun i => bs.getD (spot 0 1 i) 0) 4 i 4) 0 1 4
set_option maxRecDepth 100000 in
set_option maxHeartbeats 4000000 in
theorem axRun_4 (c m n gf lo hi gx gb cb Bb : Nat) (adA adB : Addr) (ca cv cx : Nat) (bs : List Nat) (w : World) (hf : FB lo hi w gf 5 2) (hr : RI .i64 w (some adA) [4]) (hs : RI .i64 w (some adB) [1]) (hx : w.cell? ⟨gx, 0, none⟩ = some (.int .i64 0))
    (ho : OL w Bb gb cb bs) (hl : bs.length = 4) (hb : ∀ j, j < 4 → bs.getD j 0 < 5)
    (hc : Blk w c 112 (cacheCs 1 (.slice none 0 0) m 0 0)) (hm : KM w m n (.map [])) (hn : n < 1000) (hcm : c ≠ m) (hlc : c < lo ∨ hi ≤ c) (hlm : m < lo ∨ hi ≤ m) (hhi : hi ≤ w.heap.size)
    (hA : adA.block ≠ c ∧ adA.block ≠ m ∧ adA.block ≠ gb) (hB : adB.block ≠ c ∧ adB.block ≠ m ∧ adB.block ≠ gb) (hX : gx ≠ c ∧ gx ≠ m ∧ gx ≠ gb) (hG : gb ≠ c ∧ gb ≠ m) (hlo : gb < lo ∨ hi ≤ gb) (hgb : gb < w.heap.size) :
    Calls Tryz.prog 11 #[.pointer (some ⟨gf, 0, none⟩), .pointer (some ⟨c, 0, none⟩), .slice (some ⟨gb, 0, none⟩) 4 cb, .agg #[.int .i64 0, .slice (some adA) 1 ca, .slice (some adB) 1 cv, .slice (some ⟨gx, 0, none⟩) 1 cx, .int .i64 (-1), .bool false]] w fun e w' =>
      e = .returned (.int .i64 0) ∧ OL w' Bb gb cb (done4 bs) ∧ (∃ A cap, Blk w' c 112 (cacheCs 1 (.slice A 1 cap) m 0 1)) ∧ Fr (fun i => i = c ∨ i = m ∨ i = gb) w w' := by
  have HB0 := Lib.hid ((Below.refl w.heap.size w).alloc (Nat.le_refl _) (.cells #[.int .i64 0, .slice (some adA) 1 ca, .slice (some adB) 1 cv, .slice (some ⟨gx, 0, none⟩) 1 cx, .int .i64 (-1), .bool false] 44))
  have K0 := Lib.hid (Blk.new w 44 #[.int .i64 0, .slice (some adA) 1 ca, .slice (some adB) 1 cv, .slice (some ⟨gx, 0, none⟩) 1 cx, .int .i64 (-1), .bool false])
  have hcw := hc.lt
  have hmw : m < w.heap.size := World.ownsMap.lt hm
  have HC := Lib.hid (axChoose_4 c m n gf lo hi gx adA adB ca cv cx (w.alloc (.cells #[.int .i64 0, .slice (some adA) 1 ca, .slice (some adB) 1 cv, .slice (some ⟨gx, 0, none⟩) 1 cx, .int .i64 (-1), .bool false] 44)) (hf.below HB0.out) (hr.below HB0.out) (hs.below HB0.out) (bcell HB0.out hx)
    (hc.below HB0.out hcw) (World.ownsMap.alloc hm _) hn hcm hlc hlm (Nat.le_trans hhi HB0.out.size) ⟨hA.1, hA.2.1⟩)
  have HF := Lib.hid hf
  have HR := Lib.hid hr
  have HS := Lib.hid hs
  have HO := Lib.hid ho
  have HBD := Lib.hid hb
  have HX := Lib.hid hx
  have hs0 : (w.alloc (.cells #[.int .i64 0, .slice (some adA) 1 ca, .slice (some adB) 1 cv, .slice (some ⟨gx, 0, none⟩) 1 cx, .int .i64 (-1), .bool false] 44)).heap.size = w.heap.size + 1 := by simp
  clear hf hr hs ho hb hc hm hx
  have d0 := K0.out.cell 0
  have d1 := K0.out.cell 1
  have d2 := K0.out.cell 2
  have d3 := K0.out.cell 3
  have d4 := K0.out.cell 4
  have d5 := K0.out.cell 5
  go_enter Tryz.func11, Tryz.ntmps11
  go_wp2_with fail
  refine HC.out.mono ?_
  rintro e w1 ⟨g, c', rfl, hg, hp, hcc, hf1⟩
  have HF1 := Lib.hid ((Fr.of_below (fun i => i = c ∨ i = m) HB0.out).trans hf1)
  have HP := Lib.hid hp
  have HCC := Lib.hid hcc
  have K1 := Lib.hid (hf1.blk K0.out (show ¬ (w.heap.size = c ∨ w.heap.size = m) by omega))
  have hg1 : w.heap.size + 1 ≤ g := by rw [hs0] at hg; exact hg
  clear hp hcc hf1 hg d0 d1 d2 d3 d4 d5 HC HB0 K0
  have O1 := Lib.hid (HO.out.fr HF1.out (show ¬ (gb = c ∨ gb = m) by omega))
  have R1 := Lib.hid (W.RI.frS HR.out HF1.out (fun ad e _ h => by cases e; exact h.elim hA.1 hA.2.1))
  have S1 := Lib.hid (W.RI.frS HS.out HF1.out (fun ad e _ h => by cases e; exact h.elim hB.1 hB.2.1))
  have F1 := Lib.hid (HF.out.fr HF1.out (fun i h1 h2 h => by omega))
  have X1 := Lib.hid (HF1.out.cell HX.out (show ¬ (gx = c ∨ gx = m) by omega))
  have CC := Lib.hid (W.Cells_any 0 (some adA) (some adB) ca cv [4] [1] w1 R1.out S1.out (by decide) (by decide))
  have d0 := K1.out.cell 0
  have d1 := K1.out.cell 1
  have d2 := K1.out.cell 2
  go_wp2_with fail
  refine CC.out.mono ?_
  rintro e w2 ⟨v, rfl, ho2, hb2⟩
  rw [W.cells4] at ho2
  obtain ⟨Ac, cc, rfl, _⟩ := ho2.form
  obtain ⟨gc, rfl⟩ := ho2.some (i := 0) (by decide)
  have HO2 := Lib.hid (show OI .i64 3 w2 w1.heap.size (.slice (some ⟨gc, 0, none⟩) [(0 : Int), 1, 2, 3].length cc) [0, 1, 2, 3] from ho2)
  have HB2 := Lib.hid hb2
  clear ho2 hb2 d0 d1 d2 CC
  have O2 := Lib.hid (show OL w2 Bb gb cb bs from OI.below O1.out HB2.out)
  have F2 := Lib.hid (F1.out.below HB2.out)
  go_wp2_with fail
  go_loopw [31] (fun i wr => ∃ k q : Nat, k ≤ 4 ∧ i = .int .i64 k ∧ wr = w2.drewN q) (fun i _ => 4 - (intOf i).toNat)
  case atStart => exact ⟨0, 0, by omega, rfl, rfl⟩
  case round =>
    obtain ⟨k, q, hk, rfl, rfl⟩ := hrel
    by_cases hlt : k < 4
    · have c0 : (w2.drewN q).cell? ⟨gc, k, none⟩ = some (.int .i64 (k : Int)) := by
        have h := HO2.out.cellAt (i := k) (by exact hlt)
        rw [show ([(0 : Int), 1, 2, 3].getD k 0) = (k : Int) by rcases k with _ | _ | _ | _ | k <;> first | rfl | omega] at h
        exact h
      have c1 : (w2.drewN q).cell? ⟨gb, k, none⟩ = some (.int .u64 ((bs.getD k 0 : Nat) : Int)) := OL.cell O2.out (by omega)
      have hd : decide (bs.getD k 0 < 5) = true := decide_eq_true (HBD.out k hlt)
      have C := fGood_rd gf 5 2 (bs.getD k 0) (w2.drewN q) (F2.out.fd.drewN q)
      rw [hd] at C
      clear hd
      have C' := Lib.hid C
      clear C
      generalize bs.getD k 0 = x at *
      go_wp2_with fail
      with_reducible refine C'.out.now.mono ?_
      rintro e_ w_ ⟨rfl, k3, rfl⟩
      go_wp2_with fail
      go_roundw
      case rel => exact ⟨k + 1, q + k3, by omega, by go_num, rfl⟩
      case measure => simp [intOf]; omega
    · have hkk : k = 4 := by omega
      subst hkk
      have K2 := Lib.hid ((K1.out.below HB2.out K1.out.lt).drewN q)
      have d0 := K2.out.cell 0
      have d1 := K2.out.cell 1
      have d2 := K2.out.cell 2
      have d3 := K2.out.cell 3
      have d5 := K2.out.cell 5
      have X2 : (w2.drewN q).cell? ⟨gx, 0, none⟩ = some (.int .i64 0) := bcell HB2.out X1.out
      have P2 : (w2.drewN q).cell? ⟨g, 0, none⟩ = some (.int .i64 0) ∧ (w2.drewN q).cell? ⟨g, 1, none⟩ = some (.int .i64 4) ∧ (w2.drewN q).cell? ⟨g, 2, none⟩ = some (.int .i64 0) := ⟨bcell HB2.out HP.out.1, bcell HB2.out HP.out.2.1, bcell HB2.out HP.out.2.2⟩
      obtain ⟨p0, p1, p2⟩ := P2
      have HFw := Lib.hid (show Fr (fun i => i = c ∨ i = m) w (w2.drewN q) from (HF1.out.trans (Fr.of_below _ HB2.out)).trans (Fr.drewN _ _ q))
      have AL := Lib.hid (along_4 gf gb cb Bb lo hi (some adA) (some adB) ca cv bs (w2.drewN q).drew ((F2.out.below (below_drewN (Below.refl _ _) q)).below (Below.refl _ _).drew) ((R1.out.below HB2.out).drewN q) ((S1.out.below HB2.out).drewN q) (OL.drewN O2.out q) hl HBD.out
        (fun ad e => by cases e; exact hA.2.2) (fun ad e => by cases e; exact hB.2.2) hlo (Nat.le_trans hhi HFw.out.size) (Nat.lt_of_lt_of_le hgb HFw.out.size))
      have HCw := Lib.hid (show ∃ A cap, Blk (w2.drewN q) c 112 (cacheCs 1 (.slice A 1 cap) m 0 1) from by
        obtain ⟨A, cap, h⟩ := HCC.out
        exact ⟨A, cap, (h.below HB2.out h.lt).drewN q⟩)
      have hcg : c ≠ gb := fun e => hG.1 e.symm
      clear HO2 O2 F2 O1 R1 S1 F1 X1 HF1 HP HCC K1 K2 HB2
      generalize w2.drewN q = w3 at *
      go_wp2_with fail
      refine wp_loop_rounds 3 ?_
      rw [rounds_succ]
      go_wp2_with fail
      have hS : (w3.cell? ⟨w.heap.size, 0, none⟩ = some (.int .i64 0) ∧ w3.cell? ⟨w.heap.size, 1, none⟩ = some (.slice (some adA) 1 ca) ∧ w3.cell? ⟨w.heap.size, 2, none⟩ = some (.slice (some adB) 1 cv) ∧ w3.cell? ⟨w.heap.size, 5, none⟩ = some (.bool false)) ∧ w3.cell? ⟨g, 0, none⟩ = some (.int .i64 0) ∧ w3.cell? ⟨g, 1, none⟩ = some (.int .i64 4) ∧ w3.cell? ⟨g, 2, none⟩ = some (.int .i64 0) := ⟨⟨d0, d1, d2, d5⟩, p0, p1, p2⟩
      have Hkeep := Lib.hid (fun (Y : World) (hF : Fr (fun i => i = gb) w3.drew Y) => show (Y.cell? ⟨w.heap.size, 0, none⟩ = some (.int .i64 0) ∧ Y.cell? ⟨w.heap.size, 1, none⟩ = some (.slice (some adA) 1 ca) ∧ Y.cell? ⟨w.heap.size, 2, none⟩ = some (.slice (some adB) 1 cv) ∧ Y.cell? ⟨w.heap.size, 5, none⟩ = some (.bool false)) ∧ Y.cell? ⟨g, 0, none⟩ = some (.int .i64 0) ∧ Y.cell? ⟨g, 1, none⟩ = some (.int .i64 4) ∧ Y.cell? ⟨g, 2, none⟩ = some (.int .i64 0) from
        ⟨⟨hF.cell hS.1.1 (show ¬ w.heap.size = gb by omega), hF.cell hS.1.2.1 (show ¬ w.heap.size = gb by omega), hF.cell hS.1.2.2.1 (show ¬ w.heap.size = gb by omega), hF.cell hS.1.2.2.2 (show ¬ w.heap.size = gb by omega)⟩,
          hF.cell hS.2.1 (show ¬ g = gb by omega), hF.cell hS.2.2.1 (show ¬ g = gb by omega), hF.cell hS.2.2.2 (show ¬ g = gb by omega)⟩)
      go_region_held3 (fun W' => (W'.cell? ⟨w.heap.size, 0, none⟩ = some (.int .i64 0) ∧ W'.cell? ⟨w.heap.size, 1, none⟩ = some (.slice (some adA) 1 ca) ∧ W'.cell? ⟨w.heap.size, 2, none⟩ = some (.slice (some adB) 1 cv) ∧ W'.cell? ⟨w.heap.size, 5, none⟩ = some (.bool false)) ∧ W'.cell? ⟨g, 0, none⟩ = some (.int .i64 0) ∧ W'.cell? ⟨g, 1, none⟩ = some (.int .i64 4) ∧ W'.cell? ⟨g, 2, none⟩ = some (.int .i64 0)) (first | exact hS | exact hT | go_keep)
        ((go_at_call 40; refine AL.out.mono ?_; rintro e w4 ⟨rfl, ho4, hf4⟩; (have hT := Hkeep.out _ hf4); (have HO4 := Lib.hid ho4); (have HF4 := Lib.hid hf4); clear ho4 hf4))
      have HFE := Lib.hid (HFw.out.or ((Fr.drewN (fun i => i = gb) w3 1).trans HF4.out) (U := fun i => i = c ∨ i = m ∨ i = gb) (fun i _ h => h.elim Or.inl fun h => Or.inr (Or.inl h)) (fun i _ h => Or.inr (Or.inr h)))
      have HCE := Lib.hid (show ∃ A cap, Blk w4 c 112 (cacheCs 1 (.slice A 1 cap) m 0 1) from by
        obtain ⟨A, cap, h⟩ := HCw.out
        exact ⟨A, cap, HF4.out.blk (show Blk w3.drew c 112 _ from h) hcg⟩)
      go_wp2_with fail
      rw [rounds_succ]
      go_wp2_with fail
      go_ret
      exact ⟨rfl, HO4.out, HCE.out, HFE.out⟩
end Go.Proofs.YtpkpadepccneeaaGreatDoor

/- What makes 1 with a number modulo another one: the one that is, and the ways of Euclid to it. Plain. No condition. -/
namespace Go.Proofs.YtpkpadepccneeaaGreatDoor
/-- t makes 1 with a, modulo m. -/
def InvOk (a m t : Nat) : Prop := t < m ∧ (m : Int) ∣ (t : Int) * a - 1
theorem InvOk.unique {a m t u : Nat} (h : InvOk a m t) (k : InvOk a m u) : t = u := by
  obtain ⟨h1, c, hc⟩ := h
  obtain ⟨k1, d, hd⟩ := k
  have e : (m : Int) ∣ (t : Int) - u := ⟨(t : Int) * (- d) + (u : Int) * c, by
    have e1 : (t : Int) * a = m * c + 1 := by omega
    have e2 : (u : Int) * a = m * d + 1 := by omega
    have e3 : (t : Int) * ((u : Int) * a) = u * (t * a) := by rw [Int.mul_left_comm]
    rw [e1, e2, Int.mul_add, Int.mul_add, Int.mul_one, Int.mul_one] at e3
    rw [Int.mul_add, Int.mul_left_comm, Int.mul_left_comm (m : Int) (u : Int) c]
    rw [Int.mul_neg, Int.mul_neg]
    omega⟩
  have e4 : (t : Int) % m = (u : Int) % m := Int.emod_eq_emod_iff_emod_sub_eq_zero.2 (Int.emod_eq_zero_of_dvd e)
  rw [Int.emod_eq_of_lt (by omega) (by omega), Int.emod_eq_of_lt (by omega) (by omega)] at e4
  omega
open Classical in
/-- What makes 1 with a modulo m (0: nothing does). -/
noncomputable def invN (a m : Nat) : Nat := if h : ∃ t, InvOk a m t then h.choose else 0
theorem invN_eq {a m t : Nat} (h : InvOk a m t) : invN a m = t := by
  unfold invN
  rw [dif_pos ⟨t, h⟩]
  exact (Exists.choose_spec (⟨t, h⟩ : ∃ t, InvOk a m t)).unique h
/-- What Euclid's way stands on: the rests r and n, and what of a they are; the greatest number that divides both. -/
structure Euc (a m r n t s : Nat) : Prop where
  rm : r ≤ m
  nr : n < r
  tm : t < m
  sm : s < m
  er : (m : Int) ∣ (t : Int) * a - r
  en : (m : Int) ∣ (s : Int) * a - n
  g : Nat.gcd r n = Nat.gcd m a
theorem Euc.start {a m : Nat} (hm : 2 ≤ m) : Euc a m m (a % m) 0 1 := by
  refine ⟨Nat.le_refl _, Nat.mod_lt _ (by omega), by omega, by omega, ⟨-1, by omega⟩, ?_, ?_⟩
  · have h := Nat.div_add_mod a m
    refine ⟨((a / m : Nat) : Int), ?_⟩
    have h' : (m : Int) * ((a / m : Nat) : Int) + ((a % m : Nat) : Int) = a := by exact_mod_cast h
    omega
  · rw [Nat.gcd_comm, ← Nat.gcd_rec]
theorem Euc.step {a m r n t s : Nat} (h : Euc a m r n t s) (hn : 0 < n) : Euc a m n (r % n) s ((t + (m - r / n * s % m % m)) % m) := by
  have hm : 0 < m := by have := h.tm; omega
  refine ⟨by have := h.rm; have := h.nr; omega, Nat.mod_lt _ hn, h.sm, Nat.mod_lt _ hm, h.en, ?_, ?_⟩
  · obtain ⟨c, hc⟩ := h.er
    obtain ⟨d, hd⟩ := h.en
    rw [Nat.mod_mod]
    have h1 := Nat.div_add_mod r n
    have h2 := Nat.div_add_mod (r / n * s) m
    have h3 := Nat.div_add_mod (t + (m - r / n * s % m)) m
    have h4 := Nat.mod_lt (r / n * s) hm
    generalize hq : r / n = q at *
    generalize hy : r % n = y at *
    generalize hA : (t + (m - q * s % m)) % m = A at *
    generalize hB : (t + (m - q * s % m)) / m = B at *
    generalize hC : q * s / m = C at *
    generalize hD : q * s % m = D at *
    have i1 : (n : Int) * q + y = r := by exact_mod_cast h1
    have i2 : (m : Int) * C + D = q * s := by exact_mod_cast h2
    have i3 : (m : Int) * B + A = t + (m - D) := by
      have : ((m * B + A : Nat) : Int) = ((t + (m - D) : Nat) : Int) := by rw [h3]
      rw [Int.natCast_add, Int.natCast_add, Int.natCast_mul, Int.natCast_sub (by omega)] at this
      exact this
    -- A = t + m - q s + m C - m B
    have iA : (A : Int) = t - q * s + m * (1 + C - B) := by
      rw [Int.mul_sub, Int.mul_add, Int.mul_one]; omega
    have iy : (y : Int) = r - n * q := by omega
    obtain ⟨z, hz⟩ : ∃ z : Int, z = 1 + C - B := ⟨_, rfl⟩
    rw [← hz] at iA
    refine ⟨c - q * d + z * a, ?_⟩
    rw [iA, iy, Int.add_mul, Int.sub_mul, Int.mul_add, Int.mul_sub, ← Int.mul_assoc (m : Int) z, ← hc]
    have e1 : (m : Int) * (q * d) = q * (s * a - n) := by rw [hd, Int.mul_left_comm]
    rw [e1, Int.mul_sub, ← Int.mul_assoc, Int.mul_comm (n : Int) q]
    omega
  · rw [← h.g, Nat.gcd_comm r n, Nat.gcd_rec n r, Nat.gcd_comm]
theorem Euc.done {a m r t s : Nat} (h : Euc a m r 0 t s) : r = Nat.gcd m a := by rw [← h.g, Nat.gcd_zero_right]
theorem Euc.one {a m r t s : Nat} (h : Euc a m r 0 t s) (hr : r = 1) : InvOk a m t := by
  subst hr
  exact ⟨h.tm, by have := h.er; exact_mod_cast this⟩
end Go.Proofs.YtpkpadepccneeaaGreatDoor

/- The walks of modular.Inv and field.Inv of numbers that something makes 1 with. No condition. -/
namespace Go.Proofs.YtpkpadepccneeaaGreatDoor
open Go.RowKit
set_option linter.unusedVariables false
set_option linter.unusedSimpArgs false
set_option maxHeartbeats 1000000 in
theorem dInv_rd (a m : Nat) (ha : a < Mg.R) (hm : 2 ≤ m) (hmR : m < Mg.R) (hg : Nat.gcd m a = 1) (w : World) : Rd 232 #[.int .u64 a, .int .u64 m] w (.tuple #[.int .u64 ((invN a m : Nat) : Int), .bool true]) := by
  refine Rd.of_drawn fun n0 => ?_
  have g0 : decide ((m : Int) < 2) = false := decide_eq_false (by omega)
  have g0' : decide (m < 2) = false := decide_eq_false (by omega)
  have e1 : (a : Int) % m = ((a % m : Nat) : Int) := (Int.natCast_emod a m).symm
  have h0 : ¬ (m : Int) = 0 := by omega
  have HS := Lib.hid (Euc.start (a := a) hm)
  have HC := Lib.hid fun (b c : Nat) (hb : b < Mg.R) (hc : c < Mg.R) => dMul_rd b c m hb hc (by omega) hmR w
  have HD := Lib.hid fun (b c : Nat) (hb : b < Mg.R) (hc : c < Mg.R) => dSub_rd b c m hb hc (by omega) hmR w
  have HG := Lib.hid fun (r t s : Nat) (h : Euc a m r 0 t s) => h.one (h.done.trans hg)
  have HG1 := Lib.hid fun (r t s : Nat) (h : Euc a m r 0 t s) => h.done.trans hg
  clear hg
  generalize hx : a % m = x at *
  clear hx
  go_enter Tryz.func232, Tryz.ntmps232
  go_wp2_with fail
  go_quiet (fail)
  go_wp2_with fail
  go_loopw [6, 7, 8, 9] (fun r n t s wr => ∃ (b c d e q : Nat), r = .int .u64 (b : Int) ∧ n = .int .u64 (c : Int) ∧ t = .int .u64 (d : Int) ∧ s = .int .u64 (e : Int) ∧ wr = w.drewN q ∧ n0 ≤ q ∧ Hid (Euc a m b c d e)) (fun _ n _ _ _ => (intOf n).toNat)
  case atStart => exact ⟨m, x, 0, 1, _, rfl, by rw [e1], rfl, rfl, World.drewN_drewN .., Nat.le_add_right _ _, HS⟩
  case round =>
    clear e1 HS
    obtain ⟨r, n, t, s, q, rfl, rfl, rfl, rfl, rfl, hq, HE⟩ := hrel
    by_cases hn : n = 0
    · subst hn
      have HR := Lib.hid (invN_eq (HG.out r t s HE.out))
      have HR1 := HG1.out r t s HE.out
      subst HR1
      go_wp2_with fail
      go_ret2
      exact ⟨by rw [HR.out]; rfl, drawn_le hq⟩
    · have HN := Lib.hid (HE.out.step (by omega : 0 < n))
      have g1 : decide (0 < n) = true := decide_eq_true (by omega)
      have hr1 := HE.out.rm
      have hr2 := HE.out.nr
      have hr3 := HE.out.tm
      have hr4 := HE.out.sm
      have hn0 : ¬ (n : Int) = 0 := by omega
      have e2 : (r : Int) / n = ((r / n : Nat) : Int) := (Int.natCast_ediv r n).symm
      have hqr : r / n ≤ r := Nat.div_le_self _ _
      have h3 : r / n * n + r % n = r := by rw [Nat.mul_comm]; exact Nat.div_add_mod r n
      have h4 := Nat.mod_lt r (show 0 < n by omega)
      have C1 := HC.out (r / n) s (by simp only [Mg.R] at *; omega) (by simp only [Mg.R] at *; omega)
      have C2 := HD.out t (r / n * s % m) (by simp only [Mg.R] at *; omega) (Nat.lt_trans (Nat.mod_lt _ (by omega)) hmR)
      have e3 : IntKind.u64.wrap ((r : Int) - IntKind.u64.wrap (((r / n : Nat) : Int) * n)) = ((r % n : Nat) : Int) := by
        have e4 : ((r / n : Nat) : Int) * n = ((r / n * n : Nat) : Int) := (Int.natCast_mul _ _).symm
        rw [e4, IntKind.wrap_u64, IntKind.wrap_u64]
        simp only [Mg.R] at hmR
        omega
      have hm' : r / n < Mg.R := by omega
      have e5 : IntKind.u64.wrap ((r / n : Nat) : Int) = ((r / n : Nat) : Int) := w_small (Int.natCast_nonneg _) (by simp only [Mg.R] at hm'; omega)
      clear hm'
      clear h3 hr1 hr2 hr3 hr4 hqr
      generalize r / n * s % m = z1 at *
      generalize r / n = z2 at *
      generalize r % n = z3 at *
      generalize (t + (m - z1 % m)) % m = z4 at *
      go_wp2_with fail
      with_reducible refine (Rd.go (C1) _).mono ?_
      rintro e_ w_ ⟨rfl, k1, rfl⟩
      go_wp2_with fail
      with_reducible refine (Rd.go (C2) _).mono ?_
      rintro e_ w_ ⟨rfl, k2, rfl⟩
      go_wp2_with fail
      go_roundw
      case rel => exact ⟨n, z3, s, z4, _, rfl, rfl, rfl, rfl, rfl, by omega, HN⟩
      case measure => exact h4
theorem fInv_rd (gf p g a : Nat) (w : World) (hf : FD w gf p g) (ha : a < Mg.R) (hg : Nat.gcd p a = 1) : Rd 172 #[.pointer (some ⟨gf, 0, none⟩), .int .u64 a] w (.int .u64 ((invN a p : Nat) : Int)) := by
  refine Rd.of_drawn fun q => ?_
  have C1 := fP_rd gf p g w hf
  have C2 := dInv_rd a p ha (by have := hf.low; omega) (by have := hf.high; simp only [Mg.R]; omega) hg w
  clear hf hg
  generalize invN a p = r at *
  go_enter Tryz.func172, Tryz.ntmps172
  go_wp2_with fail
  with_reducible refine (Rd.go (C1) _).mono ?_
  rintro e_ w_ ⟨rfl, k1, rfl⟩
  go_wp2_with fail
  with_reducible refine (Rd.go (C2) _).mono ?_
  rintro e_ w_ ⟨rfl, k2, rfl⟩
  go_wp2_with fail
  go_ret
  exact ⟨rfl, drawn_le (by omega)⟩
end Go.Proofs.YtpkpadepccneeaaGreatDoor

/- The walks of limbs: Scale, Times, and at small numbers Add, Compare, Rest. No condition. -/
namespace Go.Proofs.YtpkpadepccneeaaGreatDoor
open Go.RowKit
set_option linter.unusedVariables false
set_option linter.unusedSimpArgs false
/-- A digit of a product, and what is carried. -/
def lo (a k c : Nat) : Nat := (a * k + c) % Mg.R
def hi (a k c : Nat) : Nat := (a * k + c) / Mg.R
theorem lo_lt (a k c : Nat) : lo a k c < Mg.R := Nat.mod_lt _ (by decide)
theorem hi_lt {a k c : Nat} (ha : a < Mg.R) (hk : k < Mg.R) (hc : c < Mg.R) : hi a k c < Mg.R := by
  have h : a * k ≤ 18446744073709551615 * 18446744073709551615 := Nat.mul_le_mul (by simp only [Mg.R] at ha; omega) (by simp only [Mg.R] at hk; omega)
  unfold hi
  generalize a * k = P at *
  simp only [Mg.R] at *
  omega
theorem sc_facts (a k c : Nat) (ha : a < Mg.R) (hk : k < Mg.R) (hc : c < Mg.R) : ((a * k % Mg.R : Nat) + (c : Int)) % 18446744073709551616 = (lo a k c : Nat) ∧
    ∃ d : Nat, ((a * k % Mg.R : Nat) + (c : Int)) / 18446744073709551616 = d ∧ IntKind.u64.wrap (((a * k / Mg.R : Nat) : Int) + d) = (hi a k c : Nat) := by
  have h : a * k ≤ 18446744073709551615 * 18446744073709551615 := Nat.mul_le_mul (by simp only [Mg.R] at ha; omega) (by simp only [Mg.R] at hk; omega)
  unfold lo hi
  generalize a * k = P at *
  simp only [Mg.R] at *
  refine ⟨by omega, (P % 18446744073709551616 + c) / 18446744073709551616, by omega, ?_⟩
  rw [IntKind.wrap_u64]
  omega
theorem ix252_0 (x y z : Value) (w : World) : (Instr.index 252 (.agg #[x, y, z]) (.int .i64 0)).run Tryz.prog w = .ok x w := by kernel_rfl
theorem ix252_1 (x y z : Value) (w : World) : (Instr.index 252 (.agg #[x, y, z]) (.int .i64 1)).run Tryz.prog w = .ok y w := by kernel_rfl
theorem ix252_2 (x y z : Value) (w : World) : (Instr.index 252 (.agg #[x, y, z]) (.int .i64 2)).run Tryz.prog w = .ok z w := by kernel_rfl
theorem blocks3 (w : World) (o1 o2 o3 : Array Value) (t1 t2 t3 : TypeId) : Blk (((w.alloc (.cells o1 t1)).alloc (.cells o2 t2)).alloc (.cells o3 t3)) w.heap.size t1 o1 ∧ Blk (((w.alloc (.cells o1 t1)).alloc (.cells o2 t2)).alloc (.cells o3 t3)) (w.heap.size + 1) t2 o2 ∧
    Blk (((w.alloc (.cells o1 t1)).alloc (.cells o2 t2)).alloc (.cells o3 t3)) (w.heap.size + 2) t3 o3 ∧ Below w.heap.size w (((w.alloc (.cells o1 t1)).alloc (.cells o2 t2)).alloc (.cells o3 t3)) ∧ (((w.alloc (.cells o1 t1)).alloc (.cells o2 t2)).alloc (.cells o3 t3)).heap.size = w.heap.size + 3 := by
  have h2 := Blk.new (w.alloc (.cells o1 t1)) t2 o2
  have h3 := Blk.new ((w.alloc (.cells o1 t1)).alloc (.cells o2 t2)) t3 o3
  simp only [World.size_alloc] at h2 h3
  exact ⟨((Blk.new w t1 o1).alloc _).alloc _, h2.alloc _, h3, (((Below.refl _ w).alloc (Nat.le_refl _) _).alloc (by simp) _).alloc (by simp; omega) _, by simp only [World.size_alloc]⟩
theorem put3' {W : World} {g : Nat} {t : TypeId} {a0 a1 a2 : Value} (h : Blk W g t #[a0, a1, a2]) (v0 v1 v2 : Value) :
    Blk (((W.setCell ⟨g, 0, none⟩ v0).setCell ⟨g, 1, none⟩ v1).setCell ⟨g, 2, none⟩ v2) g t #[v0, v1, v2] ∧ Fr (fun i => i = g) W (((W.setCell ⟨g, 0, none⟩ v0).setCell ⟨g, 1, none⟩ v1).setCell ⟨g, 2, none⟩ v2) :=
by
  refine ⟨?_, ((Fr.setCell (S := fun i => i = g) (p := ⟨g, 0, none⟩) rfl _ _).trans (Fr.setCell (S := fun i => i = g) (p := ⟨g, 1, none⟩) rfl _ _)).trans (Fr.setCell (S := fun i => i = g) (p := ⟨g, 2, none⟩) rfl _ _)⟩
  have h3 := ((h.set_ 0 v0).set_ 1 v1).set_ 2 v2
  simp only [List.setIfInBounds_toArray, List.set_cons_zero, List.set_cons_succ] at h3
  exact h3
theorem Fr.or' {S T U : Nat → Prop} {w w1 w2 : World} (h : Fr S w w1) (k : Fr T w1 w2) (h1 : ∀ i, i < w.heap.size → S i → U i) (h2 : ∀ i, i < w.heap.size → T i → U i) : Fr U w w2 :=
  ⟨k.os.trans h.os, k.tape.trans h.tape, k.output.trans h.output, Nat.le_trans h.size k.size, fun i hi hs => (k.block i (Nat.lt_of_lt_of_le hi h.size) (fun t => hs (h2 i hi t))).trans (h.block i hi (fun s => hs (h1 i hi s)))⟩
set_option maxRecDepth 100000 in
set_option maxHeartbeats 1000000 in
theorem Scale_any (a0 a1 a2 k : Nat) (h0 : a0 < Mg.R) (h1 : a1 < Mg.R) (h2 : a2 < Mg.R) (hk : k < Mg.R) (w : World) :
    Calls Tryz.prog 174 #[.agg #[.int .u64 a0, .int .u64 a1, .int .u64 a2], .int .u64 k] w fun e w' =>
      e = .returned (.tuple #[.agg #[.int .u64 (lo a0 k 0 : Nat), .int .u64 (lo a1 k (hi a0 k 0) : Nat), .int .u64 (lo a2 k (hi a1 k (hi a0 k 0)) : Nat)], .int .u64 (hi a2 k (hi a1 k (hi a0 k 0)) : Nat)]) ∧ Below w.heap.size w w' := by
  obtain ⟨A1, A2, A3, HB, HS⟩ := blocks3 w #[.int .u64 a0, .int .u64 a1, .int .u64 a2] #[.int .u64 0, .int .u64 0, .int .u64 0] #[.int .u64 0, .int .u64 0, .int .u64 0] 252 252 252
  have B1 := Lib.hid A1
  have B2 := Lib.hid A2
  have B3 := Lib.hid A3
  have BB := Lib.hid HB
  obtain ⟨f0, d0, q0, s0⟩ := sc_facts a0 k 0 h0 hk (by decide)
  obtain ⟨f1, d1, q1, s1⟩ := sc_facts a1 k (hi a0 k 0) h1 hk (hi_lt h0 hk (by decide))
  obtain ⟨f2, d2, q2, s2⟩ := sc_facts a2 k (hi a1 k (hi a0 k 0)) h2 hk (hi_lt h1 hk (hi_lt h0 hk (by decide)))
  have M0 := Lib.hid fun W => Mul64_any a0 k h0 hk W
  have M1 := Lib.hid fun W => Mul64_any a1 k h1 hk W
  have M2 := Lib.hid fun W => Mul64_any a2 k h2 hk W
  rw [show (18446744073709551616 : Nat) = Mg.R from rfl] at M0 M1 M2
  have e0 := A1.cell 0
  have e1 := A1.cell 1
  have e2 := A1.cell 2
  have t0 := A3.cell 0
  have t1 := A3.cell 1
  have t2 := A3.cell 2
  have u0 := A3.frozen 0
  have u1 := A3.frozen 1
  have u2 := A3.frozen 2
  have r0 := A2.cell 0
  have r1 := A2.cell 1
  have r2 := A2.cell 2
  have v0 := A2.frozen 0
  have v1 := A2.frozen 1
  have v2 := A2.frozen 2
  clear A1 A2 A3 HB h0 h1 h2 hk
  have x0 := ix252_0 (.int .u64 a0) (.int .u64 a1) (.int .u64 a2)
  have x1 := ix252_1 (.int .u64 a0) (.int .u64 a1) (.int .u64 a2)
  have x2 := ix252_2 (.int .u64 a0) (.int .u64 a1) (.int .u64 a2)
  have p0 : (0 : Int) ≤ ((a0 * k % Mg.R : Nat) : Int) := by omega
  have p1 : (0 : Int) ≤ ((a1 * k % Mg.R : Nat) : Int) := by omega
  have p2 : (0 : Int) ≤ ((a2 * k % Mg.R : Nat) : Int) := by omega
  have p3 : (0 : Int) ≤ ((hi a0 k 0 : Nat) : Int) := by omega
  have p4 : (0 : Int) ≤ ((hi a1 k (hi a0 k 0) : Nat) : Int) := by omega
  generalize hi a2 k (hi a1 k (hi a0 k 0)) = z2 at *
  generalize lo a2 k (hi a1 k (hi a0 k 0)) = y2 at *
  generalize hi a1 k (hi a0 k 0) = z1 at *
  generalize lo a1 k (hi a0 k 0) = y1 at *
  generalize hi a0 k 0 = z0 at *
  generalize lo a0 k 0 = y0 at *
  generalize a0 * k / Mg.R = c0 at *
  generalize a1 * k / Mg.R = c1 at *
  generalize a2 * k / Mg.R = c2 at *
  generalize a0 * k % Mg.R = l0 at *
  generalize a1 * k % Mg.R = l1 at *
  generalize a2 * k % Mg.R = l2 at *
  go_enter Tryz.func174, Tryz.ntmps174
  go_wp2_with fail
  generalize ((w.alloc (.cells #[.int .u64 a0, .int .u64 a1, .int .u64 a2] 252)).alloc (.cells #[.int .u64 0, .int .u64 0, .int .u64 0] 252)).alloc (.cells #[.int .u64 0, .int .u64 0, .int .u64 0] 252) = W at *
  have p5 : (0 : Int) ≤ 0 := Int.le_refl 0
  have f0' : (l0 : Int) % 18446744073709551616 = (y0 : Int) := by simpa using f0
  have q0' : (l0 : Int) / 18446744073709551616 = (d0 : Int) := by simpa using q0
  clear f0 q0
  refine wp_loop_rounds 4 ?_
  rw [rounds_succ]
  go_wp2_with fail
  with_reducible refine ((M0.out _)).mono ?_
  rintro e w1 ⟨rfl, rfl⟩
  go_wp2_with (simp only [add64_0 (l0 : Int) 0 p0 p5])
  rw [rounds_succ]
  go_wp2_with fail
  with_reducible refine ((M1.out _)).mono ?_
  rintro e w1 ⟨rfl, rfl⟩
  go_wp2_with (simp only [add64_0 (l1 : Int) (z0 : Int) p1 p3])
  rw [rounds_succ]
  go_wp2_with fail
  with_reducible refine ((M2.out _)).mono ?_
  rintro e w1 ⟨rfl, rfl⟩
  go_wp2_with (simp only [add64_0 (l2 : Int) (z1 : Int) p2 p4])
  rw [rounds_succ]
  go_wp2_with fail
  obtain ⟨K3, F3⟩ := put3' B3.out (.int .u64 y0) (.int .u64 y1) (.int .u64 y2)
  have K2 := F3.blk B2.out (show ¬ w.heap.size + 1 = w.heap.size + 2 by omega)
  obtain ⟨K4, F4⟩ := put3' K2 (.int .u64 y0) (.int .u64 y1) (.int .u64 y2)
  have q0 := K4.cell 0
  have q1 := K4.cell 1
  have q2 := K4.cell 2
  have HF := ((Fr.of_below (fun i => False) BB.out).or' F3 (U := fun i => w.heap.size ≤ i) (fun i _ h => h.elim) (fun i hi h => by omega)).or' F4 (U := fun i => w.heap.size ≤ i) (fun i _ h => h) (fun i hi h => by omega)
  exact bodyPost_ret (v := .tuple #[.agg #[.int .u64 y0, .int .u64 y1, .int .u64 y2], .int .u64 z2]) (by simp [results, Tryz.results174, go_sem, q0, q1, q2]) rfl ⟨rfl, HF.to_below (Nat.le_refl _) (fun i hi h => by omega)⟩
theorem Times_rd (a b : Nat) (ha : a < Mg.R) (hb : b < Mg.R) (w : World) : Rd 257 #[.int .u64 a, .int .u64 b] w (.tuple #[.int .u64 ((a * b / Mg.R : Nat) : Int), .int .u64 ((a * b % Mg.R : Nat) : Int)]) := by
  refine Rd.of_drawn fun n => ?_
  have C := Mul64_rd a b ha hb w
  generalize a * b / Mg.R = A at *
  generalize a * b % Mg.R = L at *
  go_enter Tryz.func257, Tryz.ntmps257
  go_wp2_with fail
  with_reducible refine (Rd.go (C) _).mono ?_
  rintro e_ w_ ⟨rfl, k1, rfl⟩
  go_wp2_with fail
  go_ret2
  exact ⟨rfl, drawn_le (by omega)⟩
theorem blocks2 (w : World) (o1 o2 : Array Value) (t1 t2 : TypeId) : Blk ((w.alloc (.cells o1 t1)).alloc (.cells o2 t2)) w.heap.size t1 o1 ∧ Blk ((w.alloc (.cells o1 t1)).alloc (.cells o2 t2)) (w.heap.size + 1) t2 o2 ∧ Below w.heap.size w ((w.alloc (.cells o1 t1)).alloc (.cells o2 t2)) := by
  have h2 := Blk.new (w.alloc (.cells o1 t1)) t2 o2
  simp only [World.size_alloc] at h2
  exact ⟨(Blk.new w t1 o1).alloc _, h2, ((Below.refl _ w).alloc (Nat.le_refl _) _).alloc (by simp) _⟩
set_option maxRecDepth 100000 in
set_option maxHeartbeats 1000000 in
/-- Compare, where the third digits are alike and the second of the first one is less. -/
theorem Compare_lt (a0 a1 b0 b1 z : Nat) (h : a1 < b1) (w : World) : Calls Tryz.prog 259 #[.agg #[.int .u64 a0, .int .u64 a1, .int .u64 z], .agg #[.int .u64 b0, .int .u64 b1, .int .u64 z]] w fun e w' => e = .returned (.int .i64 (-1)) ∧ Below w.heap.size w w' := by
  obtain ⟨A1, A2, HB⟩ := blocks2 w #[.int .u64 a0, .int .u64 a1, .int .u64 z] #[.int .u64 b0, .int .u64 b1, .int .u64 z] 252 252
  have BB := Lib.hid HB
  have e1 := A1.cell 1
  have e2 := A1.cell 2
  have t1 := A2.cell 1
  have t2 := A2.cell 2
  have g1 : decide (a1 < b1) = true := decide_eq_true h
  have g2 : decide (z < z) = false := decide_eq_false (Nat.lt_irrefl _)
  have g3 : decide ((z : Int) < z) = false := decide_eq_false (Int.lt_irrefl _)
  clear A1 A2 HB h
  go_enter Tryz.func259, Tryz.ntmps259
  go_wp2_with fail
  generalize (w.alloc (.cells #[.int .u64 a0, .int .u64 a1, .int .u64 z] 252)).alloc (.cells #[.int .u64 b0, .int .u64 b1, .int .u64 z] 252) = W at *
  refine wp_loop_rounds 4 ?_
  rw [rounds_succ]
  go_wp2_with fail
  go_quiet (fail)
  go_wp2_with fail
  go_quiet (fail)
  go_wp2_with fail
  rw [rounds_succ]
  go_wp2_with fail
  go_quiet (fail)
  go_wp2_with fail
  go_ret
  exact ⟨rfl, by repeat (first | exact BB.out | refine below_drewN ?_ _)⟩
set_option maxRecDepth 100000 in
set_option maxHeartbeats 1000000 in
theorem Rest_0 (a p : Nat) (ha : a < Mg.R) (hp : 0 < p) (hpR : p < Mg.R) (w : World) : Calls Tryz.prog 262 #[.agg #[.int .u64 a, .int .u64 0, .int .u64 0], .int .u64 p] w fun e w' => e = .returned (.int .u64 ((a % p : Nat) : Int)) ∧ Below w.heap.size w w' := by
  have A1 := Blk.new w 252 #[.int .u64 a, .int .u64 0, .int .u64 0]
  have BB := Lib.hid ((Below.refl w.heap.size w).alloc (Nat.le_refl _) (.cells #[.int .u64 a, .int .u64 0, .int .u64 0] 252))
  have e0 := A1.cell 0
  have e1 := A1.cell 1
  have e2 := A1.cell 2
  have g0 : ((p : Int) == 0) = false := beq_eq_false_iff_ne.2 (by omega)
  have R0 := Lib.hid fun W => (show Rd 101 #[.int .u64 0, .int .u64 0, .int .u64 p] W (.int .u64 0) from by
    have h := Rem64_rd 0 0 p (by decide) (by decide) hp hpR W
    rw [show (0 * Mg.R + 0) % p = 0 by simp] at h
    exact h)
  have R1 := Lib.hid fun W => (show Rd 101 #[.int .u64 0, .int .u64 a, .int .u64 p] W (.int .u64 ((a % p : Nat) : Int)) from by
    have h := Rem64_rd 0 a p (by decide) ha hp hpR W
    rw [show (0 * Mg.R + a) % p = a % p by simp] at h
    exact h)
  generalize a % p = r at *
  clear A1
  go_enter Tryz.func262, Tryz.ntmps262
  go_wp2_with fail
  generalize w.alloc (.cells #[.int .u64 a, .int .u64 0, .int .u64 0] 252) = W at *
  refine wp_loop_rounds 4 ?_
  rw [rounds_succ]
  go_wp2_with fail
  with_reducible refine (R0.out _).now.mono ?_
  rintro e_ w_ ⟨rfl, k1, rfl⟩
  go_wp2_with fail
  rw [rounds_succ]
  go_wp2_with fail
  with_reducible refine (R0.out _).now.mono ?_
  rintro e_ w_ ⟨rfl, k2, rfl⟩
  go_wp2_with fail
  rw [rounds_succ]
  go_wp2_with fail
  with_reducible refine (R1.out _).now.mono ?_
  rintro e_ w_ ⟨rfl, k3, rfl⟩
  go_wp2_with fail
  rw [rounds_succ]
  go_wp2_with fail
  go_ret
  exact ⟨rfl, by repeat (first | exact BB.out | refine below_drewN ?_ _)⟩
theorem blocks4 (w : World) (o1 o2 o3 o4 : Array Value) (t1 t2 t3 t4 : TypeId) : Blk ((((w.alloc (.cells o1 t1)).alloc (.cells o2 t2)).alloc (.cells o3 t3)).alloc (.cells o4 t4)) w.heap.size t1 o1 ∧ Blk ((((w.alloc (.cells o1 t1)).alloc (.cells o2 t2)).alloc (.cells o3 t3)).alloc (.cells o4 t4)) (w.heap.size + 1) t2 o2 ∧
    Blk ((((w.alloc (.cells o1 t1)).alloc (.cells o2 t2)).alloc (.cells o3 t3)).alloc (.cells o4 t4)) (w.heap.size + 1 + 1) t3 o3 ∧ Blk ((((w.alloc (.cells o1 t1)).alloc (.cells o2 t2)).alloc (.cells o3 t3)).alloc (.cells o4 t4)) (w.heap.size + 1 + 1 + 1) t4 o4 ∧ Below w.heap.size w ((((w.alloc (.cells o1 t1)).alloc (.cells o2 t2)).alloc (.cells o3 t3)).alloc (.cells o4 t4)) := by
  obtain ⟨h1, h2, h3, hb, hs⟩ := blocks3 w o1 o2 o3 t1 t2 t3
  have h4 := Blk.new (((w.alloc (.cells o1 t1)).alloc (.cells o2 t2)).alloc (.cells o3 t3)) t4 o4
  rw [hs] at h4
  exact ⟨h1.alloc _, h2.alloc _, h3.alloc _, h4, hb.alloc hb.size _⟩
/-- What Add's rounds stand on. -/
structure A4 (w W : World) (x : Nat) (cs : Array Value) : Prop where
  a : Blk W w.heap.size 252 #[.int .u64 x, .int .u64 0, .int .u64 0]
  b : Blk W (w.heap.size + 1) 252 #[.int .u64 0, .int .u64 0, .int .u64 0]
  r : Blk W (w.heap.size + 1 + 1) 252 #[.int .u64 0, .int .u64 0, .int .u64 0]
  o : Blk W (w.heap.size + 1 + 1 + 1) 252 cs
  h : Below w.heap.size w W
theorem A4.put {w W : World} {x : Nat} {cs : Array Value} (h : A4 w W x cs) (i : Nat) (v : Value) : A4 w (W.setCell ⟨w.heap.size + 1 + 1 + 1, i, none⟩ v).drew x (cs.setIfInBounds i v) :=
  ⟨h.a.far (p := ⟨w.heap.size + 1 + 1 + 1, i, none⟩) (by show w.heap.size ≠ w.heap.size + 1 + 1 + 1; omega) v, h.b.far (p := ⟨w.heap.size + 1 + 1 + 1, i, none⟩) (by show w.heap.size + 1 ≠ w.heap.size + 1 + 1 + 1; omega) v,
    h.r.far (p := ⟨w.heap.size + 1 + 1 + 1, i, none⟩) (by show w.heap.size + 1 + 1 ≠ w.heap.size + 1 + 1 + 1; omega) v, Blk.set_ h.o i v, (h.h.setCell (p := ⟨w.heap.size + 1 + 1 + 1, i, none⟩) (by show w.heap.size ≤ w.heap.size + 1 + 1 + 1; omega) v).drew⟩
set_option maxRecDepth 100000 in
set_option maxHeartbeats 1000000 in
theorem Add_0 (x : Nat) (hx : x < Mg.R) (w : World) : Calls Tryz.prog 295 #[.agg #[.int .u64 x, .int .u64 0, .int .u64 0], .agg #[.int .u64 0, .int .u64 0, .int .u64 0]] w fun e w' => e = .returned (.tuple #[.agg #[.int .u64 x, .int .u64 0, .int .u64 0], .bool false]) ∧ Below w.heap.size w w' := by
  obtain ⟨A1, A2, A3, A5, HB⟩ := blocks4 w #[.int .u64 x, .int .u64 0, .int .u64 0] #[.int .u64 0, .int .u64 0, .int .u64 0] #[.int .u64 0, .int .u64 0, .int .u64 0] #[.int .u64 0, .int .u64 0, .int .u64 0] 252 252 252 252
  have HA := Lib.hid (show A4 w _ x #[.int .u64 0, .int .u64 0, .int .u64 0] from ⟨A1, A2, A3, A5, HB⟩)
  have CA : ∀ W, (callFunc 217 #[.int .u64 x, .int .u64 0, .int .u64 0]).run Tryz.prog W = .ok (.value (.tuple #[.int .u64 x, .int .u64 0])) W := fun W => by
    have e1 : ((x : Int) + 0) % 18446744073709551616 = x := by simp only [Mg.R] at hx; omega
    have e2 : ((x : Int) + 0) / 18446744073709551616 = 0 := by simp only [Mg.R] at hx; omega
    rw [add64_0 x 0 (by omega) (by omega), e1, e2]
  have CZ : ∀ W, (callFunc 217 #[.int .u64 0, .int .u64 0, .int .u64 0]).run Tryz.prog W = .ok (.value (.tuple #[.int .u64 0, .int .u64 0])) W := fun W => by
    rw [add64_0 0 0 (by omega) (by omega)]
    rfl
  clear A1 A2 A3 A5 HB
  go_enter Tryz.func295, Tryz.ntmps295
  go_wp2_with fail
  generalize (((w.alloc (.cells #[.int .u64 x, .int .u64 0, .int .u64 0] 252)).alloc (.cells #[.int .u64 0, .int .u64 0, .int .u64 0] 252)).alloc (.cells #[.int .u64 0, .int .u64 0, .int .u64 0] 252)).alloc (.cells #[.int .u64 0, .int .u64 0, .int .u64 0] 252) = W at *
  refine wp_loop_rounds 4 ?_
  have a0 := HA.out.a.cell 0
  have b0 := HA.out.b.cell 0
  have o0 := HA.out.o.cell 0
  have u0 := HA.out.o.frozen 0
  have HA0 := Lib.hid (HA.out.put 0 (.int .u64 x))
  rw [rounds_succ]
  go_wp2_with fail
  go_region
  clear a0 b0 o0 u0 HA
  generalize (W.setCell ⟨w.heap.size + 1 + 1 + 1, 0, none⟩ (.int .u64 x)).drew = W0 at *
  clear W
  go_wp2_with fail
  have a0 := HA0.out.a.cell 1
  have b0 := HA0.out.b.cell 1
  have o0 := HA0.out.o.cell 1
  have u0 := HA0.out.o.frozen 1
  have HA1 := Lib.hid (HA0.out.put 1 (.int .u64 0))
  rw [rounds_succ]
  go_wp2_with fail
  go_region
  clear a0 b0 o0 u0 HA0
  generalize (W0.setCell ⟨w.heap.size + 1 + 1 + 1, 1, none⟩ (.int .u64 0)).drew = W1 at *
  clear W0
  go_wp2_with fail
  have a0 := HA1.out.a.cell 2
  have b0 := HA1.out.b.cell 2
  have o0 := HA1.out.o.cell 2
  have u0 := HA1.out.o.frozen 2
  have HA2 := Lib.hid (HA1.out.put 2 (.int .u64 0))
  rw [rounds_succ]
  go_wp2_with fail
  go_region
  clear a0 b0 o0 u0 HA1
  generalize (W1.setCell ⟨w.heap.size + 1 + 1 + 1, 2, none⟩ (.int .u64 0)).drew = W2 at *
  clear W1
  go_wp2_with fail
  have o0 := HA2.out.o.cell 0
  have o1 := HA2.out.o.cell 1
  have o2 := HA2.out.o.cell 2
  have r0 := HA2.out.r.cell 0
  have r1 := HA2.out.r.cell 1
  have r2 := HA2.out.r.cell 2
  have v0 := HA2.out.r.frozen 0
  have v1 := HA2.out.r.frozen 1
  have v2 := HA2.out.r.frozen 2
  rw [rounds_succ]
  go_wp2_with fail
  obtain ⟨K4, F4⟩ := put3' HA2.out.r (.int .u64 x) (.int .u64 0) (.int .u64 0)
  have q0 := K4.cell 0
  have q1 := K4.cell 1
  have q2 := K4.cell 2
  have HF := (Fr.of_below (fun i => False) HA2.out.h).or' F4 (U := fun i => w.heap.size ≤ i) (fun i _ h => h.elim) (fun i hi h => by omega)
  exact bodyPost_ret (v := .tuple #[.agg #[.int .u64 x, .int .u64 0, .int .u64 0], .bool false]) (by simp [results, Tryz.results295, go_sem, q0, q1, q2]) rfl ⟨rfl, HF.to_below (Nat.le_refl _) (fun i hi h => by omega)⟩
end Go.Proofs.YtpkpadepccneeaaGreatDoor
