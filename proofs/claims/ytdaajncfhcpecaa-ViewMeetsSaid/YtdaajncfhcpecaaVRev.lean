/- The walk of chapter 8's Reverse. No condition. -/
import Derived.Test.YtdaajncfhcpecaaVEmpty
import Derived.Test.YtdaajncfhcpecaaVPerm
import Derived.Deep.CutRange
import Derived.Deep.RegionHeld3
import Derived.StillTailTactics
namespace Go.Proofs.Ytdaajncfhcpecaa
set_option linter.unusedVariables false
set_option linter.unusedSimpArgs false
open Go.RowKit
theorem OI.nilForm {k : IntKind} {e : TypeId} {w : World} {B : Nat} {A : Option Addr} {n c : Nat} {l : List Int} (h : OI k e w B (.slice A n c) l) : A = none → n = 0 ∧ c = 0 := fun hA => by
  subst hA
  rcases h.2 with ⟨h1, _⟩ | ⟨g, cap, cur, h1, _⟩
  · injection h1 with _ h2 h3
    exact ⟨h2, h3⟩
  · cases h1
/-- A view turned about an axis: its offset and its strides. -/
def revO (o : Int) (l s : List Int) (k : Nat) : Int := if 1 < l.getD k 0 then o + (l.getD k 0 - 1) * s.getD k 0 else o
def revS (l s : List Int) (k : Nat) : List Int := if 1 < l.getD k 0 then s.set k (-(s.getD k 0)) else s
theorem OI.some {k : IntKind} {e : TypeId} {w : World} {B : Nat} {A : Option Addr} {n c : Nat} {l : List Int} (h : OI k e w B (.slice A n c) l) {i : Nat} (hi : i < l.length) : ∃ g, A = some ⟨g, 0, none⟩ := by
  rcases h.2 with ⟨h1, h2⟩ | ⟨g, cap, cur, h1, _⟩
  · omega
  · injection h1 with h1 _ _
    exact ⟨g, h1⟩
theorem Rev_no (o : Int) (A B : Option Addr) (cp cq : Nat) (l s : List Int) (k : Int) (w : World) (hr : RI .i64 w A l) (hs : RI .i64 w B s) (hm : l.length ≤ 9223372036854775807) (hms : s.length ≤ 9223372036854775807) (x : Int)
    (hx : (if V.check o l s 4096 ≠ 0 then V.check o l s 4096 else if k < 0 ∨ (l.length : Int) ≤ k then 10 else 0) = x) (hx0 : x ≠ 0) :
    Calls Try.prog 36 #[.agg (view o A l.length cp B s.length cq), .int .i64 k] w fun e w' => e = .returned (.tuple #[.agg noView, .int .i64 x]) ∧ Below w.heap.size w w' := by
  have Z2 := Blk.new w 49 (view o A l.length cp B s.length cq)
  have Z4 := Blk.new (w.alloc (.cells (view o A l.length cp B s.length cq) 49)) 49 noView
  rw [World.size_alloc] at Z4
  have HB := Lib.hid (show Below w.heap.size w ((w.alloc (.cells (view o A l.length cp B s.length cq) 49)).alloc (.cells noView 49)) from ((Below.refl _ _).alloc (Nat.le_refl _) _).alloc (by simp) _)
  have HK2 := Lib.hid (Z2.alloc (.cells noView 49))
  have HK4 := Lib.hid Z4
  clear Z2 Z4
  have CX := Lib.hid (axis_any o A B cp cq l s k _ (hr.below HB.out) (hs.below HB.out) hm hms)
  rw [hx] at CX
  have hb : (x != 0) = true := by simp [hx0]
  have hb2 : (x == 0) = false := by simp [hx0]
  clear hr hs hm hms hx hx0
  go_enter Try.func36, Try.ntmps36
  go_wp2_with fail
  with_reducible refine CX.out.mono ?_
  rintro e w1 ⟨rfl, hb1⟩
  have HB1 := Lib.hid (below_then HB.out HB.out.size hb1)
  have HJ4 := Lib.hid (HK4.out.below hb1 (by simp))
  clear hb1 CX
  have k0 := HJ4.out.cell 0
  have k1 := HJ4.out.cell 1
  have k2 := HJ4.out.cell 2
  have f0 := HJ4.out.frozen 0
  have f1 := HJ4.out.frozen 1
  have f2 := HJ4.out.frozen 2
  have HKE := Lib.hid (((HJ4.out.set_ 0 (.int .i64 0)).set_ 1 (.slice none 0 0)).set_ 2 (.slice none 0 0))
  have d0 := HKE.out.cell 0
  have d1 := HKE.out.cell 1
  have d2 := HKE.out.cell 2
  go_wp2_with fail
  refine bodyPost_ret (v := .tuple #[.agg noView, .int .i64 x]) (by simp [results, Try.results36, go_sem, d0, d1, d2]) rfl ⟨rfl, ?_⟩
  exact ((HB1.out.setCell (p := ⟨w.heap.size + 1, 0, none⟩) (by simp) _).setCell (p := ⟨w.heap.size + 1, 1, none⟩) (by simp) _).setCell (p := ⟨w.heap.size + 1, 2, none⟩) (by simp) _
theorem revO_bound {o : Int} {l s : List Int} (hq : V.check o l s 4096 = 0) {k : Nat} (hk : k < l.length) (h1 : 1 < l.getD k 0) :
    -4096 < s.getD k 0 ∧ s.getD k 0 < 4096 ∧ 0 ≤ o ∧ o < 4096 ∧ l.getD k 0 ≤ 4096 := by
  obtain ⟨hl, hok, _, _, _, _, hn⟩ := V.check_zero hq
  have h2 := hn.2.2 k (by omega)
  have h3 := V.get_le_prod l k hok.2.1
  have h4 := hok.2.2
  have h5 := hn.1
  have h6 := hn.2.1
  unfold V.nearAt at h2
  omega
theorem Blk.view_cells {U : World} {g : Nat} {t : TypeId} {o : Int} {A B : Option Addr} {n c m d : Nat} (h : Blk U g t (view o A n c B m d)) :
    U.cell? ⟨g, 0, none⟩ = some (.int .i64 o) ∧ U.cell? ⟨g, 1, none⟩ = some (.slice A n c) ∧ U.cell? ⟨g, 2, none⟩ = some (.slice B m d) := ⟨h.cell 0, h.cell 1, h.cell 2⟩
/-- A view's own box and its two rows, each apart from the others. -/
def Three (W : World) (B b : Nat) (x : Value) (A1 : Option Addr) (n1 c1 : Nat) (l1 : List Int) (A2 : Option Addr) (n2 c2 : Nat) (l2 : List Int) : Prop :=
  Blk W b 49 #[x, .slice A1 n1 c1, .slice A2 n2 c2] ∧ OI .i64 3 W B (.slice A1 n1 c1) l1 ∧ OI .i64 3 W B (.slice A2 n2 c2) l2 ∧ B ≤ b ∧
  (∀ g, (Value.slice A1 n1 c1).ownBlock = some g → g ≠ b) ∧ (∀ g, (Value.slice A2 n2 c2).ownBlock = some g → g ≠ b) ∧ Apart (.slice A1 n1 c1) (.slice A2 n2 c2)
theorem keep_set {W : World} {B b i : Nat} {v u : Value} {l : List Int} (h : OI .i64 3 W B v l) (hb : ∀ g, v.ownBlock = some g → g ≠ b) : OI .i64 3 (W.setCell ⟨b, i, none⟩ u) B v l :=
  h.kept (set_grown W b i u) fun g hg e => by injection e with e; exact hb g hg e.symm
theorem Three.made {W : World} {B b : Nat} {x : Value} {A1 : Option Addr} {n1 c1 : Nat} {l1 : List Int} {A2 : Option Addr} {n2 c2 : Nat} {l2 : List Int} (hk : Blk W b 49 noView) (hB : B ≤ b)
    (h1 : OI .i64 3 W B (.slice A1 n1 c1) l1) (h2 : OI .i64 3 W B (.slice A2 n2 c2) l2) (n1' : ∀ g, (Value.slice A1 n1 c1).ownBlock = some g → g ≠ b) (n2' : ∀ g, (Value.slice A2 n2 c2).ownBlock = some g → g ≠ b) (hap : Apart (.slice A1 n1 c1) (.slice A2 n2 c2)) :
    Three (((W.setCell ⟨b, 0, none⟩ x).setCell ⟨b, 1, none⟩ (.slice A1 n1 c1)).setCell ⟨b, 2, none⟩ (.slice A2 n2 c2)) B b x A1 n1 c1 l1 A2 n2 c2 l2 :=
  ⟨((hk.set_ 0 x).set_ 1 _).set_ 2 _, keep_set (keep_set (keep_set h1 n1') n1') n1', keep_set (keep_set (keep_set h2 n2') n2') n2', hB, n1', n2', hap⟩
set_option maxHeartbeats 1000000 in
theorem Rev_yes (o : Int) (A B : Option Addr) (cp cq : Nat) (l s : List Int) (k : Nat) (w : World) (hr : RI .i64 w A l) (hs : RI .i64 w B s) (hnA : A = none → l.length = 0 ∧ cp = 0) (hnB : B = none → s.length = 0 ∧ cq = 0) (hq : V.check o l s 4096 = 0) (hk : k < l.length) :
    Calls Try.prog 36 #[.agg (view o A l.length cp B s.length cq), .int .i64 k] w fun e w' => ∃ A1 c1 A2 c2, e = .returned (.tuple #[.agg (view (revO o l s k) A1 l.length c1 A2 s.length c2), .int .i64 0]) ∧
      OI .i64 3 w' w.heap.size (.slice A1 l.length c1) l ∧ OI .i64 3 w' w.heap.size (.slice A2 s.length c2) (revS l s k) ∧ Below w.heap.size w w' := by
  obtain ⟨hls, hok, _⟩ := V.check_zero hq
  have h4 := hok.1
  have Z2 := Blk.new w 49 (view o A l.length cp B s.length cq)
  have Z4 := Blk.new (w.alloc (.cells (view o A l.length cp B s.length cq) 49)) 49 noView
  rw [World.size_alloc] at Z4
  have HB := Lib.hid (show Below w.heap.size w ((w.alloc (.cells (view o A l.length cp B s.length cq) 49)).alloc (.cells noView 49)) from ((Below.refl _ _).alloc (Nat.le_refl _) _).alloc (by simp) _)
  have HK2 := Lib.hid (Z2.alloc (.cells noView 49))
  have HK4 := Lib.hid Z4
  clear Z2 Z4
  have CX := Lib.hid (axis_any o A B cp cq l s k _ (hr.below HB.out) (hs.below HB.out) (by omega) (by omega))
  rw [hq, if_neg (by simp), if_neg (by omega)] at CX
  have HR := Lib.hid fun U (h : Below w.heap.size w U) => (And.intro (hr.below h) (hs.below h))
  have CA := Lib.hid fun U (h : Below w.heap.size w U) => Clone_any A cp l U (hr.below h) (by omega) hnA
  have CB := Lib.hid fun U (h : Below w.heap.size w U) => Clone_any B cq s U (hs.below h) (by omega) hnB
  clear hr hs hnA hnB
  have HQ := Lib.hid fun (h : 1 < l.getD k 0) => revO_bound hq hk h
  have HLS := Lib.hid hls
  clear hq hok hls
  have HO1 := Lib.hid (show 1 < l.getD k 0 → o + (l.getD k 0 - 1) * s.getD k 0 = revO o l s k from fun h => (if_pos h).symm)
  have HO2 := Lib.hid (show ¬ 1 < l.getD k 0 → o = revO o l s k from fun h => (if_neg h).symm)
  have HS1 := Lib.hid (show 1 < l.getD k 0 → s.set k (-(s.getD k 0)) = revS l s k from fun h => (if_pos h).symm)
  have HS2 := Lib.hid (show ¬ 1 < l.getD k 0 → s = revS l s k from fun h => (if_neg h).symm)
  generalize revO o l s k = o' at *
  generalize revS l s k = s' at *
  go_enter Try.func36, Try.ntmps36
  go_wp2_with fail
  with_reducible refine CX.out.mono ?_
  rintro e w1 ⟨rfl, hb1⟩
  have HB1 := Lib.hid (below_then HB.out HB.out.size hb1)
  have HJ2 := Lib.hid (HK2.out.below hb1 (by simp; omega))
  have HJ4 := Lib.hid (HK4.out.below hb1 (by simp))
  clear hb1 CX
  have j0 := HJ2.out.cell 0
  have j1 := HJ2.out.cell 1
  have j2 := HJ2.out.cell 2
  have CA' := Lib.hid fun X (h : Below w1.heap.size w1 X) => (CA.out X (below_then HB1.out HB1.out.size h)).mono (R' := fun e U => ∃ A1 c1, e = .returned (.slice A1 l.length c1) ∧ OI .i64 3 U X.heap.size (.slice A1 l.length c1) l ∧ Below X.heap.size X U ∧ Below w1.heap.size w1 U) (by
    rintro e U ⟨v, rfl, ho, hb⟩
    obtain ⟨A1, c1, rfl, _⟩ := ho.form
    exact ⟨A1, c1, rfl, ho, hb, below_then h h.size hb⟩)
  have CB' := Lib.hid fun X (h : Below w1.heap.size w1 X) => (CB.out X (below_then HB1.out HB1.out.size h)).mono (R' := fun e U => ∃ A1 c1, e = .returned (.slice A1 s.length c1) ∧ OI .i64 3 U X.heap.size (.slice A1 s.length c1) s ∧ Below X.heap.size X U ∧ Below w1.heap.size w1 U) (by
    rintro e U ⟨v, rfl, ho, hb⟩
    obtain ⟨A1, c1, rfl, _⟩ := ho.form
    exact ⟨A1, c1, rfl, ho, hb, below_then h h.size hb⟩)
  have HD0 := Lib.hid (show Below w1.heap.size w1 w1.drew from ⟨rfl, rfl, rfl, Nat.le_refl _, fun _ _ => rfl⟩)
  clear CA CB
  go_upto_region 4 with fail
  go_cut [7] from 16 to 25 (fun c7 wx => ∃ b A1 c1 A2 c2, c7 = .pointer (some ⟨b, 0, none⟩) ∧ Hid (Three wx w1.heap.size b (.int .i64 o) A1 l.length c1 l A2 s.length c2 s) ∧ Hid (Below w1.heap.size w1 wx))
  case first =>
    go_region_held3 (fun w' => w'.cell? ⟨w.heap.size, 0, none⟩ = some (.int .i64 o) ∧ w'.cell? ⟨w.heap.size, 1, none⟩ = some (.slice A l.length cp) ∧ w'.cell? ⟨w.heap.size, 2, none⟩ = some (.slice B s.length cq) ) (first | exact hS | go_keep | exact (((Blk.far hKU.out (p := ⟨_, 0, none⟩) hne _).far (p := ⟨_, 1, none⟩) hne _).far (p := ⟨_, 2, none⟩) hne _).view_cells | exact ((((hKU.out.alloc _).far (p := ⟨_, 0, none⟩) hne _).far (p := ⟨_, 1, none⟩) hne _).far (p := ⟨_, 2, none⟩) hne _).view_cells)
      (first
      | (go_at_call 46; have hpast := HZ1; clear hpast; refine (CB'.out U1 HD1.out).mono ?_; rintro e U2 ⟨A2, c2, rfl, ho2, hb2, hd2⟩; have HZ2 := Lib.hid (HZ1.out.below hb2 HZ1.out.lt); have z20 := HZ2.out.cell 0; have y20 := HZ2.out.frozen 0; have z21 := HZ2.out.cell 1; have y21 := HZ2.out.frozen 1; have z22 := HZ2.out.cell 2; have y22 := HZ2.out.frozen 2; have HD2 := Lib.hid hd2; have HP2 := Lib.hid ho2; have HBB2 := Lib.hid hb2; have hKU := Lib.hid (HJ2.out.below hd2 HJ2.out.lt); have hS := hKU.out.view_cells; have hne : w.heap.size ≠ w1.heap.size := (by have := HJ2.out.lt; have := HD1.out.size; have := HD2.out.size; omega); clear ho2 hb2 hd2)
      | (go_at_call 46; refine (CB'.out (U1.alloc (.cells noView 49)) (HD1.out.alloc HD1.out.size _)).mono ?_; rintro e U2 ⟨A2, c2, rfl, ho2, hb2, hd2⟩; have HZ2 := Lib.hid (show Blk U2 U1.heap.size 49 noView from (Blk.new U1 49 noView).below hb2 (by simp)); have z20 := HZ2.out.cell 0; have y20 := HZ2.out.frozen 0; have z21 := HZ2.out.cell 1; have y21 := HZ2.out.frozen 1; have z22 := HZ2.out.cell 2; have y22 := HZ2.out.frozen 2; have HD2 := Lib.hid hd2; have HP2 := Lib.hid ho2; have HBB2 := Lib.hid hb2; have hKU := Lib.hid (HJ2.out.below hd2 HJ2.out.lt); have hS := hKU.out.view_cells; have hne : w.heap.size ≠ U1.heap.size := (by have := HJ2.out.lt; have := HD1.out.size; have := HD2.out.size; omega); clear ho2 hb2 hd2)
      | (go_at_call 46; have hpast := HD1; clear hpast; refine (CB'.out U1 HD1.out).mono ?_; rintro e U2 ⟨A2, c2, rfl, ho2, hb2, hd2⟩; have HD2 := Lib.hid hd2; have HP2 := Lib.hid ho2; have HBB2 := Lib.hid hb2; have hKU := Lib.hid (HJ2.out.below hd2 HJ2.out.lt); have hS := hKU.out.view_cells; have hne : w.heap.size ≠ U2.heap.size := (by have := HJ2.out.lt; have := HD1.out.size; have := HD2.out.size; omega); clear ho2 hb2 hd2)
      | (go_at_call 46; refine (CA'.out (w1.drew.alloc (.cells noView 49)) (HD0.out.alloc (Nat.le_refl _) _)).mono ?_; rintro e U1 ⟨A1, c1, rfl, ho1, hb1, hd1⟩; have HZ1 := Lib.hid (show Blk U1 w1.heap.size 49 noView from (Blk.new w1.drew 49 noView).below hb1 (by simp)); have HD1 := Lib.hid hd1; have HP1 := Lib.hid ho1; have HM1 := Lib.hid (HJ2.out.below hd1 HJ2.out.lt); have hS := HM1.out.view_cells; clear ho1 hb1 hd1)
      | (go_at_call 46; refine (CA'.out w1.drew HD0.out).mono ?_; rintro e U1 ⟨A1, c1, rfl, ho1, hb1, hd1⟩; have HD1 := Lib.hid hd1; have HP1 := Lib.hid ho1; have HM1 := Lib.hid (HJ2.out.below hd1 HJ2.out.lt); have hS := HM1.out.view_cells; clear ho1 hb1 hd1))
    all_goals go_wp2_with fail
    all_goals go_meet
    · refine ⟨_, A1, c1, A2, c2, rfl, Lib.hid ⟨Blk.new U2 49 _, ((HP1.out.below HBB2.out).alloc _).mono HD0.out.size, (HP2.out.alloc _).mono HD1.out.size, HD2.out.size, fun g hg => ?_, fun g hg => ?_, fun g hg hg2 => ?_⟩, Lib.hid (HD2.out.alloc HD2.out.size _)⟩
      · have := (HP1.out.lt g hg).2; have := HBB2.out.size; omega
      · have := (HP2.out.lt g hg).2; omega
      · have := (HP1.out.lt g hg).2; have := (HP2.out.lt g hg2).1; omega
    · refine ⟨_, A1, c1, A2, c2, rfl, Lib.hid (Three.made HZ2.out HD1.out.size (((HP1.out.alloc _).below HBB2.out).mono HD0.out.size) (HP2.out.mono (by have := HD1.out.size; simp; omega)) (fun g hg => ?_) (fun g hg => ?_) (fun g hg hg2 => ?_)), Lib.hid (((HD2.out.setCell (p := ⟨U1.heap.size, 0, none⟩) HD1.out.size _).setCell (p := ⟨U1.heap.size, 1, none⟩) HD1.out.size _).setCell (p := ⟨U1.heap.size, 2, none⟩) HD1.out.size _)⟩
      · have := (HP1.out.lt g hg).2; omega
      · have := (HP2.out.lt g hg).1; simp at this; omega
      · have := (HP1.out.lt g hg).2; have := (HP2.out.lt g hg2).1; simp at this; omega
    · refine ⟨_, A1, c1, A2, c2, rfl, Lib.hid (Three.made HZ2.out (Nat.le_refl _) ((HP1.out.below HBB2.out).mono (by simp)) (HP2.out.mono HD1.out.size) (fun g hg => ?_) (fun g hg => ?_) (fun g hg hg2 => ?_)), Lib.hid (((HD2.out.setCell (p := ⟨w1.heap.size, 0, none⟩) (Nat.le_refl _) _).setCell (p := ⟨w1.heap.size, 1, none⟩) (Nat.le_refl _) _).setCell (p := ⟨w1.heap.size, 2, none⟩) (Nat.le_refl _) _)⟩
      · have := (HP1.out.lt g hg).1; simp at this; omega
      · have := (HP2.out.lt g hg).1; have := HZ1.out.lt; omega
      · have := (HP1.out.lt g hg).2; have := (HP2.out.lt g hg2).1; omega
  case rest =>
    obtain ⟨b, A1, c1, A2, c2, rfl, HT, HDC⟩ := hcut
    clear j0 j1 j2 CA' CB' HD0
    have HC2 := Lib.hid (HJ2.out.below HDC.out HJ2.out.lt)
    have HC4 := Lib.hid (HJ4.out.below HDC.out HJ4.out.lt)
    have HCB := Lib.hid (below_then HB1.out HB1.out.size HDC.out)
    have hne2 : w.heap.size ≠ b := by have := HJ2.out.lt; have := HT.out.2.2.2.1; omega
    have hne4 : w.heap.size + 1 ≠ b := by have := HJ4.out.lt; have := HT.out.2.2.2.1; omega
    have HRC := Lib.hid (HR.out wc HCB.out)
    have hk2 : k < s.length := by rw [← HLS.out]; exact hk
    obtain ⟨ad, rfl, hel⟩ := HRC.out.1.at_ hk
    obtain ⟨bd, rfl, hel2⟩ := HRC.out.2.at_ hk2
    have c1' := HC2.out.cell 1
    have c2' := HC2.out.cell 2
    have hi0 : (0 : Int) ≤ (k : Int) := by omega
    have hi1 : (k : Int) < (l.length : Int) := by omega
    have hi2 : (k : Int) < (s.length : Int) := by omega
    generalize l.getD k 0 = x at *
    generalize hyE : s.getD k 0 = y at *
    have HYE := Lib.hid hyE
    clear hyE
    by_cases hx : 1 < x
    · have hd := decide_eq_true hx
      have hb := HQ.out hx
      have hmul := V.mul_bound (x := x - 1) (y := y) (X := 4096) (Y := 4096) (by omega) (by omega) (by omega) (by omega) (by omega)
      have hO := HO1.out hx
      have hS' := HS1.out hx
      have m1 : -9223372036854775808 ≤ x - 1 := by omega
      have m2 : x - 1 ≤ 9223372036854775807 := by omega
      have m3 : -9223372036854775808 ≤ (x - 1) * y := by omega
      have m4 : (x - 1) * y ≤ 9223372036854775807 := by omega
      have m5 : -9223372036854775808 ≤ o + (x - 1) * y := by omega
      have m6 : o + (x - 1) * y ≤ 9223372036854775807 := by omega
      have m7 : -9223372036854775808 ≤ -y := by omega
      have m8 : -y ≤ 9223372036854775807 := by omega
      have HO := Lib.hid hO
      have HS := Lib.hid hS'
      clear hO hS' HO1 HO2 HS1 HS2 hb hmul hx HQ
      have b0 := HT.out.1.cell 0
      have b0f := HT.out.1.frozen 0
      go_wp2_with fail
      go_still_tail 12, (by kernel_rfl)
      change wpList _ _ _ _ _ wc.drew
      obtain ⟨HTb, ho1, ho2, hBb, hn1, hn2, hap⟩ := HT.out
      obtain ⟨g2, rfl⟩ := ho2.some hk2
      have hg2 : g2 ≠ b := hn2 g2 rfl
      obtain ⟨W7, hW7⟩ : ∃ W, (wc.setCell ⟨b, 0, none⟩ (.int .i64 (o + (x - 1) * y))).drew = W := ⟨_, rfl⟩
      have HK7 := Lib.hid (show Blk W7 b 49 #[.int .i64 (o + (x - 1) * y), .slice A1 l.length c1, .slice (some ⟨g2, 0, none⟩) s.length c2] from by rw [← hW7]; exact HTb.set_ 0 _)
      have HX7 := Lib.hid (show Blk W7 w.heap.size 49 _ from by rw [← hW7]; exact HC2.out.far (p := ⟨b, 0, none⟩) hne2 _)
      have HR7 := Lib.hid (show Blk W7 (w.heap.size + 1) 49 _ from by rw [← hW7]; exact HC4.out.far (p := ⟨b, 0, none⟩) hne4 _)
      have P1 := Lib.hid (show OI .i64 3 W7 w1.heap.size _ _ from by rw [← hW7]; exact (keep_set ho1 hn1).drewN 1)
      have P2 := Lib.hid (show OI .i64 3 W7 w1.heap.size _ _ from by rw [← hW7]; exact (keep_set ho2 hn2).drewN 1)
      have HB7 := Lib.hid (show Below w.heap.size w W7 from by rw [← hW7]; exact (HCB.out.setCell (p := ⟨b, 0, none⟩) (Nat.le_trans HB1.out.size hBb) _).drew)
      obtain ⟨_, e7, hel7⟩ := (HR.out W7 HB7.out).2.at_ hk2
      rw [HYE.out] at hel7
      injection e7 with e7
      subst e7
      have x72 := HX7.out.cell 2
      have k72 := HK7.out.cell 2
      have p7 := P2.out.cellAt hk2
      have p7f := P2.out.frozenAt rfl k
      clear ho1 ho2 hn1 hn2 HTb hel2 hel
      go_wp2_with fail
      go_still_tail 10, (by kernel_rfl)
      change wpList _ _ _ _ _ ((wc.setCell ⟨b, 0, none⟩ (.int .i64 (o + (x - 1) * y))).drew).drew
      rw [hW7]
      go_upto_region 9 with fail
      generalize hW8 : (W7.setCell ⟨g2, k, none⟩ (.int .i64 (-y))).drew = W8
      have hlt4 := HJ4.out.lt
      have hlt2 := HJ2.out.lt
      have hgb := P2.out.base
      have HK8 := Lib.hid (show Blk W8 b 49 _ from by rw [← hW8]; exact HK7.out.far (p := ⟨g2, k, none⟩) hg2.symm _)
      have HR8 := Lib.hid (show Blk W8 (w.heap.size + 1) 49 _ from by rw [← hW8]; exact HR7.out.far (p := ⟨g2, k, none⟩) (show w.heap.size + 1 ≠ g2 by omega) _)
      have R1 := Lib.hid (show OI .i64 3 W8 w1.heap.size (.slice A1 l.length c1) l from by rw [← hW8]; exact keep_set P1.out fun g hg e => hap g hg (by rw [e]; rfl))
      have R2 := Lib.hid (show OI .i64 3 W8 w1.heap.size (.slice (some ⟨g2, 0, none⟩) s.length c2) s' from by rw [← hW8, ← HS.out]; exact P2.out.stored rfl k _)
      have HB8 := Lib.hid (show Below w.heap.size w W8 from by rw [← hW8]; exact (HB7.out.setCell (p := ⟨g2, k, none⟩) (show w.heap.size ≤ g2 by omega) _).drew)
      clear hW8 hW7 HK7 HX7 HR7 P1 P2 x72 k72 p7 p7f
      rw [HO.out] at HK8
      have b0 := HK8.out.cell 0
      have b1 := HK8.out.cell 1
      have b2 := HK8.out.cell 2
      have k0 := HR8.out.cell 0
      have k1 := HR8.out.cell 1
      have k2 := HR8.out.cell 2
      have f0 := HR8.out.frozen 0
      have f1 := HR8.out.frozen 1
      have f2 := HR8.out.frozen 2
      have HKE := Lib.hid (((HR8.out.set_ 0 (.int .i64 o')).set_ 1 (.slice A1 l.length c1)).set_ 2 (.slice (some ⟨g2, 0, none⟩) s.length c2))
      have d0 := HKE.out.cell 0
      have d1 := HKE.out.cell 1
      have d2 := HKE.out.cell 2
      go_wp2_with fail
      refine bodyPost_ret (v := .tuple #[.agg (view o' A1 l.length c1 (some ⟨g2, 0, none⟩) s.length c2), .int .i64 0]) (by simp [results, Try.results36, go_sem, d0, d1, d2]) rfl ⟨A1, c1, _, c2, rfl, ?_, ?_, ?_⟩
      · exact (keep_set (keep_set (keep_set R1.out (fun g hg => by have := (R1.out.lt g hg).1; omega)) (fun g hg => by have := (R1.out.lt g hg).1; omega)) (fun g hg => by have := (R1.out.lt g hg).1; omega)).mono (by omega)
      · exact (keep_set (keep_set (keep_set R2.out (fun g hg => by have := (R2.out.lt g hg).1; omega)) (fun g hg => by have := (R2.out.lt g hg).1; omega)) (fun g hg => by have := (R2.out.lt g hg).1; omega)).mono (by omega)
      · exact ((HB8.out.setCell (p := ⟨w.heap.size + 1, 0, none⟩) (by simp) _).setCell (p := ⟨w.heap.size + 1, 1, none⟩) (by simp) _).setCell (p := ⟨w.heap.size + 1, 2, none⟩) (by simp) _
    · have hd := decide_eq_false hx
      have HO := Lib.hid (HO2.out (by omega))
      have HS := Lib.hid (HS2.out (by omega))
      clear HO1 HO2 HS1 HS2 HQ hx
      have b0 := HT.out.1.cell 0
      have b1 := HT.out.1.cell 1
      have b2 := HT.out.1.cell 2
      have k0 := HC4.out.cell 0
      have k1 := HC4.out.cell 1
      have k2 := HC4.out.cell 2
      have f0 := HC4.out.frozen 0
      have f1 := HC4.out.frozen 1
      have f2 := HC4.out.frozen 2
      have HKE := Lib.hid (((HC4.out.set_ 0 (.int .i64 o)).set_ 1 (.slice A1 l.length c1)).set_ 2 (.slice A2 s.length c2))
      have d0 := HKE.out.cell 0
      have d1 := HKE.out.cell 1
      have d2 := HKE.out.cell 2
      go_wp2_with fail
      have hlt4 := HJ4.out.lt
      have hlt2 := HJ2.out.lt
      obtain ⟨_, ho1, ho2, _⟩ := HT.out
      refine bodyPost_ret (v := .tuple #[.agg (view o A1 l.length c1 A2 s.length c2), .int .i64 0]) (by simp [results, Try.results36, go_sem, d0, d1, d2]) rfl ⟨A1, c1, A2, c2, by rw [← HO.out], ?_, ?_, ?_⟩
      · exact (keep_set (keep_set (keep_set ho1 (fun g hg => by have := (ho1.lt g hg).1; omega)) (fun g hg => by have := (ho1.lt g hg).1; omega)) (fun g hg => by have := (ho1.lt g hg).1; omega)).mono (by omega)
      · rw [← HS.out]
        exact (keep_set (keep_set (keep_set ho2 (fun g hg => by have := (ho2.lt g hg).1; omega)) (fun g hg => by have := (ho2.lt g hg).1; omega)) (fun g hg => by have := (ho2.lt g hg).1; omega)).mono (by omega)
      · exact ((HCB.out.setCell (p := ⟨w.heap.size + 1, 0, none⟩) (by simp) _).setCell (p := ⟨w.heap.size + 1, 1, none⟩) (by simp) _).setCell (p := ⟨w.heap.size + 1, 2, none⟩) (by simp) _
end Go.Proofs.Ytdaajncfhcpecaa
