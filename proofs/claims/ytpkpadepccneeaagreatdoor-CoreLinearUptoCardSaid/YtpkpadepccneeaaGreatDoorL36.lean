/- The walk of convolve.Linear of any two lists whose product's length is at most 1024. No condition. -/
import Derived.Test.YtpkpadepccneeaaGreatDoorL35
import Derived.Test.YtpkpadepccneeaaGreatDoorL34
import Derived.Test.YtpkpadepccneeaaGreatDoorL33
import Derived.Test.YtpkpadepccneeaaGreatDoorL09
import Derived.Test.YtpkpadepccneeaaGreatDoorL29
import Derived.Deep.RegionHeld3
import Derived.Test.YtpkpadepccneeaaGreatDoorL24
namespace Go.Proofs.YtpkpadepccneeaaGreatDoor
set_option linter.unusedVariables false
set_option linter.unusedSimpArgs false
open Go Go.RowKit Go.Shelf
theorem oi_form {w : World} {B n : Nat} {v : Value} {l : List Int} (h : OI .u64 22 w B v l) (hn : l.length = n) (h0 : 0 < n) : ∃ g c, v = .slice (Option.some ⟨g, 0, none⟩) n c := by
  obtain ⟨A, c, rfl, _⟩ := h.form
  obtain ⟨g, rfl⟩ := OI.some h (i := 0) (by omega)
  exact ⟨g, c, by rw [hn]⟩
theorem nats_app (xs : List Nat) (m : Nat) : nats xs ++ List.replicate m 0 = nats (xs ++ List.replicate m 0) := by
  simp [nats]
theorem padded_get (xs : List Nat) (m i : Nat) : (xs ++ List.replicate m 0).getD i 0 = xs.getD i 0 := by
  by_cases h : i < xs.length
  · rw [List.getD_eq_getElem?_getD, List.getElem?_append_left h, ← List.getD_eq_getElem?_getD]
  · rw [List.getD_eq_getElem?_getD, List.getElem?_append_right (by omega), List.getD_eq_getElem?_getD, List.getElem?_eq_none (by omega : xs.length ≤ i), List.getElem?_replicate]
    split <;> rfl
theorem getD_big (xs : List Nat) (i : Nat) (h : xs.length ≤ i) : xs.getD i 0 = 0 := by
  rw [List.getD_eq_getElem?_getD, List.getElem?_eq_none h]; rfl
/-- Two rows of the call's own. -/
structure Ln (w W : World) (g c : Nat) (zs : List Nat) : Prop where
  r : OL W w.heap.size g c zs
  b : Below w.heap.size w W
theorem Ln.then {w W W' : World} {g c : Nat} {zs : List Nat} (h : Ln w W g c zs) (k : Below W.heap.size W W') : Ln w W' g c zs := ⟨OI.below h.r k, below_then h.b h.b.size k⟩
theorem Ln.of {w W W' : World} {g c : Nat} {zs : List Nat} (hb : Below w.heap.size w W) (h : OL W' W.heap.size g c zs) (k : Below W.heap.size W W') : Ln w W' g c zs := ⟨OI.mono h hb.size, below_then hb hb.size k⟩
set_option maxRecDepth 100000 in
set_option maxHeartbeats 4000000 in
theorem Linear_yes (gf p g la lb n K : Nat) (ad bd : Addr) (c d : Nat) (xs ys : List Nat) (w : World) (hf : FD w gf p g) (hg : g < Mg.R) (hx : RI .u64 w (some ad) (nats xs)) (hy : RI .u64 w (some bd) (nats ys))
    (hlx : xs.length = la) (hly : ys.length = lb) (h1 : 1 ≤ la) (h2 : 1 ≤ lb) (hn : la + lb = n + 1) (hm : n ≤ 1024) (hK : K ≤ 12) (hK1 : n ≤ 2 ^ K) (hK2 : K = 0 ∨ 2 ^ (K - 1) < n) (hxp : ∀ j, j < la → xs.getD j 0 < p) (hyp : ∀ j, j < lb → ys.getD j 0 < p)
    (hp : Nt.Prime p) (hord : ∀ k, g ^ k % p = 1 ↔ (p - 1) ∣ k) (hd : divs p ((2 ^ K : Nat) : Int) = true) :
    Calls Tryz.prog 18 #[.pointer (some ⟨gf, 0, none⟩), .slice (some ad) la c, .slice (some bd) lb d] w fun e w' => ∃ g' c', e = .returned (.tuple #[.slice (some ⟨g', 0, none⟩) n c', .int .i64 0]) ∧
      (∀ m, m < n → w'.cell? ⟨g', m, none⟩ = some (.int .u64 ((F.conv (fun t => xs.getD t 0) (fun t => ys.getD t 0) (2 ^ K) m % p : Nat) : Int))) ∧ w.heap.size ≤ g' ∧ Below w.heap.size w w' := by
  have hN := pow_le12 hK
  have h3 := hf.low
  have hp0 := hp.pos
  have hR : p < Mg.R := by have := hf.high; simp only [Mg.R]; omega
  have hdv : 2 ^ K ∣ p - 1 := by
    have := (divs_iff.1 hd).2
    rw [Int.toNat_natCast] at this
    exact Nat.dvd_of_mod_eq_zero this
  have hw : ∀ q, (g ^ ((p - 1) / 2 ^ K) % p) ^ q % p = 1 ↔ 2 ^ K ∣ q := fun q => Nt.root_order (by omega) hord hdv q
  have hgn := gcd_pow2 (K := K) hp h3
  have hwn := (hw (2 ^ K)).2 (Nat.dvd_refl _)
  have hgr := gcd_root hp hN.1 hwn
  obtain ⟨hv, hvo⟩ := inv_order hp hN.1 hw
  have hpxl : (xs ++ List.replicate (2 ^ K - la) 0).length = 2 ^ K := by simp [hlx]; omega
  have hpyl : (ys ++ List.replicate (2 ^ K - lb) 0).length = 2 ^ K := by simp [hly]; omega
  have hpx : ∀ j, j < 2 ^ K → (xs ++ List.replicate (2 ^ K - la) 0).getD j 0 < p := fun j hj => by
    rw [padded_get]
    by_cases h : j < la
    · exact hxp j h
    · rw [getD_big _ _ (by omega)]; exact hp0
  have hpy : ∀ j, j < 2 ^ K → (ys ++ List.replicate (2 ^ K - lb) 0).getD j 0 < p := fun j hj => by
    rw [padded_get]
    by_cases h : j < lb
    · exact hyp j h
    · rw [getD_big _ _ (by omega)]; exact hp0
  have C0 := Lib.hid fun (W : World) => Pad_any n K hK hK1 hK2 W
  have C1 := fDivides_rd gf p g ((2 ^ K : Nat) : Int) w hf (by omega)
  rw [hd] at C1
  have C2 := cGood_yes gf p g la lb (some ad) (some bd) c d xs ys w hf hx hy hlx hly (by omega) (by omega) hxp hyp
  have HX := Lib.hid fun (W : World) (h : Below w.heap.size w W) => hx.below h
  have HY := Lib.hid fun (W : World) (h : Below w.heap.size w W) => hy.below h
  have DN := Lib.hid fun (W : World) (h : Below w.heap.size w W) (a : Addr) (c : Nat) (zs : List Nat) (hz : RI .u64 W (some a) (nats zs)) (hl : zs.length = 2 ^ K) (hb : ∀ j, j < 2 ^ K → zs.getD j 0 < p) =>
    Down_any gf p g _ K (some a) c zs W (hf.below h) hg hz hl hK hd rfl hb hp hw
  have UP := Lib.hid fun (W : World) (h : Below w.heap.size w W) (a : Addr) (c : Nat) (zs : List Nat) (hz : RI .u64 W (some a) (nats zs)) (hl : zs.length = 2 ^ K) (hb : ∀ j, j < 2 ^ K → zs.getD j 0 < p) =>
    Up_any gf p g (invN (g ^ ((p - 1) / 2 ^ K) % p) p) K (some a) c zs W (hf.below h) hg hz hl hK hd (fun W' h' => Root_inv gf p g (2 ^ K) W' ((hf.below h).below h') hg hN.1 hN.2 hd hgr) (by
      have := invN_le (g ^ ((p - 1) / 2 ^ K) % p) p
      omega) hb hp hvo hgn
  have TM := Lib.hid fun (W : World) (h : Below w.heap.size w W) (a b : Addr) (c d : Nat) (us vs : List Nat) (hu : RI .u64 W (some a) (nats us)) (hv : RI .u64 W (some b) (nats vs)) (hul : us.length = 2 ^ K) (hvl : vs.length = 2 ^ K) (hub : ∀ i, i < 2 ^ K → us.getD i 0 < Mg.R) (hvb : ∀ i, i < 2 ^ K → vs.getD i 0 < Mg.R) =>
    times_any gf p g (some a) (some b) c d (2 ^ K) us vs W (hf.below h) hu hv hul hvl hN.2 hub hvb
  have FIN := Lib.hid fun (zs : List Nat) (m : Nat) (hm : m < 2 ^ K) (hz : ∀ t, t < 2 ^ K → zs.getD t 0 = dftF p (g ^ ((p - 1) / 2 ^ K) % p) (fun t => xs.getD t 0) (2 ^ K) t * dftF p (g ^ ((p - 1) / 2 ^ K) % p) (fun t => ys.getD t 0) (2 ^ K) t % p) =>
    lin_fin (zs := zs) (la := la) (lb := lb) hp hN.1 hw hgn hm (fun i hi => getD_big xs i (by omega)) (fun i hi => getD_big ys i (by omega)) (by omega) hz
  have HLX := Lib.hid (show (nats xs).length = la by rw [nats_len, hlx])
  have HLY := Lib.hid (show (nats ys).length = lb by rw [nats_len, hly])
  have PX := Lib.hid hpx
  have PY := Lib.hid hpy
  have PXL := Lib.hid hpxl
  have PYL := Lib.hid hpyl
  have HNK := Lib.hid hK1
  have HLT := Lib.hid fun (f : Nat → Nat) (r m : Nat) => (show dftF p r f (2 ^ K) m < p from Nat.mod_lt _ hp0)
  clear hf hx hy hd hpx hpy hpxl hpyl hw hvo hv hwn hgr hgn hdv hxp hyp hK2 hord
  generalize g ^ ((p - 1) / 2 ^ K) % p = r at *
  generalize 2 ^ K = N at *
  have la0 : la ≤ N := by omega
  have lb0 : lb ≤ N := by omega
  have s1 : IntKind.i64.wrap ((N : Int) - (la : Int)) = ((N - la : Nat) : Int) := by rw [IntKind.wrap_i64]; omega
  have s2 : IntKind.i64.wrap ((N : Int) - (lb : Int)) = ((N - lb : Nat) : Int) := by rw [IntKind.wrap_i64]; omega
  have s4 : IntKind.i64.wrap ((la : Int) + (lb : Int)) = ((la + lb : Nat) : Int) := by rw [IntKind.wrap_i64]; omega
  have s5 : IntKind.i64.wrap (((la + lb : Nat) : Int) - 1) = (n : Int) := by rw [IntKind.wrap_i64]; omega
  have t1 : ((la : Int) == 0) = false := beq_eq_false_iff_ne.2 (by omega)
  have t2 : ((lb : Int) == 0) = false := beq_eq_false_iff_ne.2 (by omega)
  have t3 : decide ((1024 : Int) < (n : Int)) = false := decide_eq_false (by omega)
  have t3' : decide (1024 < n) = false := decide_eq_false (by omega)
  have M1 := Lib.hid (show la + (N - la) ≤ 8192 by omega)
  have M2 := Lib.hid (show lb + (N - lb) ≤ 8192 by omega)
  generalize hma : N - la = ma at *
  generalize hmb : N - lb = mb at *
  go_enter Tryz.func18, Tryz.ntmps18
  go_wp2_with fail
  with_reducible refine (C0.out w).now.mono ?_
  rintro e_ w_ ⟨rfl, k0, rfl⟩
  go_wp2_with fail
  with_reducible refine (Rd.go C1 _).mono ?_
  rintro e_ w_ ⟨rfl, k1, rfl⟩
  go_wp2_with fail
  with_reducible refine (Rd.go C2 _).mono ?_
  rintro e_ w_ ⟨rfl, k2, rfl⟩
  go_wp2_with fail
  with_reducible refine (Rd.go (C0.out w) _).mono ?_
  rintro e_ w_ ⟨rfl, k3, rfl⟩
  have B0 := Lib.hid (below_drewN (Below.refl w.heap.size w) (k0 + k1 + k2 + k3))
  generalize w.drewN (k0 + k1 + k2 + k3) = V at *
  have BA := Lib.hid ((Below.refl V.heap.size V).alloc (Nat.le_refl _) (.cells #[] 22))
  have HO := Lib.hid (show OI .u64 22 (V.alloc (.cells #[] 22)) V.heap.size (.slice (some ⟨V.heap.size, 0, none⟩) 0 0) [] from World.ownsRow_made V #[] 0 (Nat.le_refl _) (by decide) rfl)
  have HR := Lib.hid (HX.out _ (below_then B0.out B0.out.size BA.out))
  go_upto_region 14 with (first
    | (at_builtin; refine wpList_appendRI rfl (.tmp 47) (.tmp 48) 26 rfl V.heap.size 22 .u64 8 Tryz.underlying26 info22 (by decide) (.slice (some ⟨V.heap.size, 0, none⟩) 0 0) [] (nats xs) (some ad) c rfl (by rw [HLX.out]; rfl) HO.out HR.out (by intro h; cases h) (by rw [HLX.out]; simp; omega) (by simp) ?_; intro v w1 ho hb; rw [List.nil_append] at ho; obtain ⟨g1, c1, rfl⟩ := oi_form ho HLX.out (by omega); obtain ⟨v1, w2, er, ho2, hb2⟩ := append_zeros w1 V.heap.size g1 la c1 ma (nats xs) ho HLX.out M1.out (BA.out.trans hb).size; (have ER := Lib.hid er); (have O2 := Lib.hid ho2); (have B2 := Lib.hid ((BA.out.trans hb).trans hb2)); clear ho hb er ho2 hb2)
    | (at_builtin; refine Lib.wpList_append_run _ rfl (.tmp 49) (.tmp 53) 26 3 rfl (.slice (some ⟨g1, 0, none⟩) la c1) (.int .i64 ma) rfl rfl _ _ ER.out ?_))
  have hO2 := O2.out
  rw [nats_app] at hO2
  obtain ⟨g2, c2, rfl⟩ := oi_form (n := N) hO2 (by rw [nats_len]; exact PXL.out) (by omega)
  have L2 := Lib.hid (show Ln w w2 g2 c2 (xs ++ List.replicate ma 0) from .of B0.out (by unfold OL; rw [PXL.out]; exact hO2) B2.out)
  clear hO2 O2 HO HR BA ER
  have BA := Lib.hid ((Below.refl w2.heap.size w2).alloc (Nat.le_refl _) (.cells #[] 22))
  have HO := Lib.hid (show OI .u64 22 (w2.alloc (.cells #[] 22)) w2.heap.size (.slice (some ⟨w2.heap.size, 0, none⟩) 0 0) [] from World.ownsRow_made w2 #[] 0 (Nat.le_refl _) (by decide) rfl)
  have HR := Lib.hid (HY.out _ (below_then L2.out.b L2.out.b.size BA.out))
  go_upto_region 15 with (first
    | (at_builtin; refine wpList_appendRI rfl (.tmp 55) (.tmp 56) 26 rfl w2.heap.size 22 .u64 8 Tryz.underlying26 info22 (by decide) (.slice (some ⟨w2.heap.size, 0, none⟩) 0 0) [] (nats ys) (some bd) d rfl (by rw [HLY.out]; rfl) HO.out HR.out (by intro h; cases h) (by rw [HLY.out]; simp; omega) (by simp) ?_; intro v w3 ho hb; rw [List.nil_append] at ho; obtain ⟨g3, c3, rfl⟩ := oi_form ho HLY.out (by omega); obtain ⟨v3, w4, er, ho2, hb2⟩ := append_zeros w3 w2.heap.size g3 lb c3 mb (nats ys) ho HLY.out M2.out (BA.out.trans hb).size; (have ER := Lib.hid er); (have O4 := Lib.hid ho2); (have B4 := Lib.hid ((BA.out.trans hb).trans hb2)); clear ho hb er ho2 hb2)
    | (at_builtin; refine Lib.wpList_append_run _ rfl (.tmp 57) (.tmp 61) 26 3 rfl (.slice (some ⟨g3, 0, none⟩) lb c3) (.int .i64 mb) rfl rfl _ _ ER.out ?_))
  have hO4 := O4.out
  rw [nats_app] at hO4
  obtain ⟨g4, c4, rfl⟩ := oi_form (n := N) hO4 (by rw [nats_len]; exact PYL.out) (by omega)
  have L4 := Lib.hid (show Ln w w4 g4 c4 (ys ++ List.replicate mb 0) from .of L2.out.b (by unfold OL; rw [PYL.out]; exact hO4) B4.out)
  have L5 := Lib.hid (L2.out.then B4.out)
  clear hO4 O4 HO HR BA ER L2 B2 B4
  go_wp2_with fail
  refine (DN.out w4 L4.out.b _ _ _ L5.out.r.riD PXL.out PX.out).mono ?_
  rintro e w5 ⟨g5, rfl, ho5, hb5⟩
  have L6 := Lib.hid (Ln.of L4.out.b ho5 hb5)
  have L7 := Lib.hid (L4.out.then hb5)
  clear ho5 hb5 L4 L5
  go_wp2_with fail
  refine (DN.out w5 L7.out.b _ _ _ L7.out.r.riD PYL.out PY.out).mono ?_
  rintro e w6 ⟨g6, rfl, ho6, hb6⟩
  have L8 := Lib.hid (Ln.of L7.out.b ho6 hb6)
  have L9 := Lib.hid (L6.out.then hb6)
  clear ho6 hb6 L6 L7
  go_wp2_with fail
  have ex : (fun t => (xs ++ List.replicate ma 0).getD t 0) = fun t => xs.getD t 0 := funext (padded_get xs ma)
  have ey : (fun t => (ys ++ List.replicate mb 0).getD t 0) = fun t => ys.getD t 0 := funext (padded_get ys mb)
  rw [ex] at L9
  rw [ey] at L8
  clear ex ey
  have HXG := Lib.hid fun i (hi : i < N) => mapget (dftF p r (fun t => xs.getD t 0) N) N i hi
  have HYG := Lib.hid fun i (hi : i < N) => mapget (dftF p r (fun t => ys.getD t 0) N) N i hi
  have HXN := Lib.hid (show ((List.range N).map (dftF p r (fun t => xs.getD t 0) N)).length = N by simp)
  have HYN := Lib.hid (show ((List.range N).map (dftF p r (fun t => ys.getD t 0) N)).length = N by simp)
  generalize (List.range N).map (dftF p r (fun t => xs.getD t 0) N) = XL at *
  generalize (List.range N).map (dftF p r (fun t => ys.getD t 0) N) = YL at *
  refine (TM.out w6 L8.out.b _ _ _ _ XL YL L9.out.r.riD L8.out.r.riD HXN.out HYN.out (fun i hi => by rw [HXG.out i hi]; exact Nat.lt_trans (HLT.out _ r i) hR) (fun i hi => by rw [HYG.out i hi]; exact Nat.lt_trans (HLT.out _ r i) hR)).mono ?_
  rintro e w7 ⟨g7, rfl, ho7, hb7⟩
  have HZG := Lib.hid (show ∀ i, i < N → (mulL p XL YL N).getD i 0 = XL.getD i 0 * YL.getD i 0 % p from fun i hi => mapget (fun i => XL.getD i 0 * YL.getD i 0 % p) N i hi)
  have HZN := Lib.hid (show (mulL p XL YL N).length = N by simp [mulL])
  generalize mulL p XL YL N = zs at *
  have L10 := Lib.hid (show Ln w w7 g7 N zs from .of L8.out.b (by unfold OL; rw [HZN.out]; exact ho7) hb7)
  clear ho7 hb7 L8 L9
  have FI2 := Lib.hid fun m (hm : m < N) => FIN.out zs m hm (fun t ht => by rw [HZG.out t ht, HXG.out t ht, HYG.out t ht])
  go_wp2_with fail
  refine (UP.out w7 L10.out.b _ _ zs L10.out.r.riD HZN.out (fun i hi => by rw [HZG.out i hi]; exact Nat.mod_lt _ hp0)).mono ?_
  rintro e w8 ⟨g8, rfl, ho8, hb8⟩
  have HC := Lib.hid (show ∀ m, m < n → w8.cell? ⟨g8, m, none⟩ = some (.int .u64 ((F.conv (fun t => xs.getD t 0) (fun t => ys.getD t 0) N m % p : Nat) : Int)) from fun m hm => by
    have hmN : m < N := by have := HNK.out; omega
    have := ho8.cell (k := m) (by simp; exact hmN)
    rw [mapget _ _ _ hmN, FI2.out m hmN] at this
    exact this)
  have L11 := Lib.hid (Ln.of L10.out.b ho8 hb8)
  clear ho8 hb8 L10
  go_wp2_with fail
  go_ret2
  exact ⟨g8, n, rfl, HC.out, (OI.base L11.out.r).1, L11.out.b⟩
set_option maxRecDepth 100000 in
set_option maxHeartbeats 1000000 in
theorem Linear_no (gf p g la lb n K : Nat) (ad bd : Addr) (c d : Nat) (w : World) (hf : FD w gf p g) (h1 : 1 ≤ la) (h2 : 1 ≤ lb) (hn : la + lb = n + 1) (hm : n ≤ 1024) (hK : K ≤ 12) (hK1 : n ≤ 2 ^ K) (hK2 : K = 0 ∨ 2 ^ (K - 1) < n) (hd : divs p ((2 ^ K : Nat) : Int) = false) :
    Rd 18 #[.pointer (some ⟨gf, 0, none⟩), .slice (some ad) la c, .slice (some bd) lb d] w (.tuple #[.slice none 0 0, .int .i64 4]) := by
  refine Rd.of_drawn fun q => ?_
  have hN := pow_le12 hK
  have C0 := Lib.hid fun (W : World) => Pad_any n K hK hK1 hK2 W
  have C1 := fDivides_rd gf p g ((2 ^ K : Nat) : Int) w hf (by omega)
  rw [hd] at C1
  clear hf hd hK2
  generalize 2 ^ K = N at *
  have s4 : IntKind.i64.wrap ((la : Int) + (lb : Int)) = ((la + lb : Nat) : Int) := by rw [IntKind.wrap_i64]; omega
  have s5 : IntKind.i64.wrap (((la + lb : Nat) : Int) - 1) = (n : Int) := by rw [IntKind.wrap_i64]; omega
  have t1 : ((la : Int) == 0) = false := beq_eq_false_iff_ne.2 (by omega)
  have t2 : ((lb : Int) == 0) = false := beq_eq_false_iff_ne.2 (by omega)
  have t3 : decide ((1024 : Int) < (n : Int)) = false := decide_eq_false (by omega)
  have t3' : decide (1024 < n) = false := decide_eq_false (by omega)
  go_enter Tryz.func18, Tryz.ntmps18
  go_wp2_with fail
  with_reducible refine (Rd.go (C0.out w) _).mono ?_
  rintro e_ w_ ⟨rfl, k0, rfl⟩
  go_wp2_with fail
  with_reducible refine (Rd.go C1 _).mono ?_
  rintro e_ w_ ⟨rfl, k1, rfl⟩
  go_wp2_with fail
  go_ret2
  exact ⟨rfl, drawn_le (by omega)⟩
end Go.Proofs.YtpkpadepccneeaaGreatDoor

/- The reference's product straight on: in plain, and its walk. No condition. -/
namespace Go.Proofs.YtpkpadepccneeaaGreatDoor
open Go Go.RowKit Go.Shelf
set_option linter.unusedVariables false
set_option linter.unusedSimpArgs false
/-- One place's sum, as far as the two loops have come. -/
def accS (x y : Nat → Nat) (lb i k m : Nat) : Nat := F.S (fun i' => F.S (fun j => if i' + j = m then x i' * y j else 0) lb) i + F.S (fun j => if i + j = m then x i * y j else 0) k
theorem accS_zero (x y : Nat → Nat) (lb m : Nat) : accS x y lb 0 0 m = 0 := rfl
theorem accS_step (x y : Nat → Nat) (lb i k m : Nat) : accS x y lb i (k + 1) m = accS x y lb i k m + if i + k = m then x i * y k else 0 := by
  unfold accS
  rw [Nat.add_assoc]; rfl
theorem accS_next (x y : Nat → Nat) (lb i m : Nat) : accS x y lb i lb m = accS x y lb (i + 1) 0 m := rfl
theorem S_ext {f : Nat → Nat} {a n : Nat} (h : a ≤ n) (h0 : ∀ t, a ≤ t → f t = 0) : F.S f a = F.S f n := by
  obtain ⟨d, rfl⟩ : ∃ d, n = a + d := ⟨n - a, by omega⟩
  rw [F.S_split, F.S_zero (n := d) (fun t _ => h0 (a + t) (by omega)), Nat.add_zero]
theorem accS_conv {x y : Nat → Nat} {la lb N m : Nat} (hla : la ≤ N) (hlb : lb ≤ N) (hx : ∀ i, la ≤ i → x i = 0) (hy : ∀ i, lb ≤ i → y i = 0) : accS x y lb la 0 m = F.conv x y N m := by
  unfold accS F.conv
  rw [show F.S (fun j => if la + j = m then x la * y j else 0) 0 = 0 from rfl, Nat.add_zero]
  rw [S_ext hla (fun t ht => F.S_zero fun j _ => by rw [hx t ht, Nat.zero_mul]; split <;> rfl)]
  exact F.S_eq fun i _ => S_ext hlb fun t ht => by rw [hy t ht, Nat.mul_zero]; split <;> rfl
def stR (p : Nat) (x y : Nat → Nat) (n lb i k : Nat) : List Nat := (List.range n).map fun m => accS x y lb i k m % p
theorem stR_len (p : Nat) (x y : Nat → Nat) (n lb i k : Nat) : (stR p x y n lb i k).length = n := by simp [stR]
theorem stR_get (p : Nat) (x y : Nat → Nat) (n lb i k m : Nat) (hm : m < n) : (stR p x y n lb i k).getD m 0 = accS x y lb i k m % p := mapget _ _ _ hm
theorem stR_zero (p : Nat) (x y : Nat → Nat) (n lb : Nat) : stR p x y n lb 0 0 = List.replicate n 0 := by
  refine List.ext_getElem (by simp [stR]) fun i h1 h2 => ?_
  simp [stR, accS_zero]
theorem stR_set (p : Nat) (x y : Nat → Nat) (n lb i k : Nat) (h : i + k < n) : (stR p x y n lb i k).set (i + k) ((accS x y lb i k (i + k) % p + x i * y k % p) % p) = stR p x y n lb i (k + 1) := by
  refine List.ext_getElem (by simp [stR]) fun m h1 h2 => ?_
  simp only [stR, List.getElem_set, List.getElem_map, List.getElem_range, accS_step]
  by_cases e : i + k = m
  · subst e
    rw [if_pos rfl, if_pos rfl, ← Nat.add_mod]
  · rw [if_neg e, if_neg e, Nat.add_zero]
theorem stR_next (p : Nat) (x y : Nat → Nat) (n lb i : Nat) : stR p x y n lb i lb = stR p x y n lb (i + 1) 0 := rfl
set_option maxRecDepth 100000 in
set_option maxHeartbeats 4000000 in
theorem Straight_any (p la lb n : Nat) (ad bd : Addr) (c d : Nat) (xs ys : List Nat) (w : World) (h1p : 1 ≤ p) (hR : p < Mg.R) (hx : RI .u64 w (some ad) (nats xs)) (hy : RI .u64 w (some bd) (nats ys)) (hlx : xs.length = la) (hly : ys.length = lb) (h1 : 1 ≤ la) (h2 : 1 ≤ lb) (hn : la + lb = n + 1) (hm : n ≤ 4096)
    (hxp : ∀ j, j < la → xs.getD j 0 < Mg.R) (hyp : ∀ j, j < lb → ys.getD j 0 < Mg.R) :
    Calls Tryz.prog 19 #[.int .u64 p, .slice (some ad) la c, .slice (some bd) lb d] w fun e w' => ∃ g', e = .returned (.slice (some ⟨g', 0, none⟩) n n) ∧ OL w' w.heap.size g' n (stR p (fun t => xs.getD t 0) (fun t => ys.getD t 0) n lb la 0) ∧ Below w.heap.size w w' := by
  have CA := Lib.hid fun (W : World) a b (ha : a < Mg.R) (hb : b < Mg.R) => (show Rd 52 #[.int .u64 a, .int .u64 b, .int .u64 p] W (.int .u64 (((a + b) % p : Nat) : Int)) from .of_same fun q => rAdd_any a b p ha hb h1p hR (W.drewN q))
  have CM := Lib.hid fun (W : World) a b (ha : a < Mg.R) (hb : b < Mg.R) => (show Rd 53 #[.int .u64 a, .int .u64 b, .int .u64 p] W (.int .u64 ((a * b % p : Nat) : Int)) from .of_same fun q => rMul_any a b p ha hb h1p hR (W.drewN q))
  have HX := Lib.hid hx
  have HY := Lib.hid hy
  have XP := Lib.hid hxp
  have YP := Lib.hid hyp
  have s4 : IntKind.i64.wrap ((la : Int) + (lb : Int)) = ((la + lb : Nat) : Int) := by rw [IntKind.wrap_i64]; omega
  have s5 : IntKind.i64.wrap (((la + lb : Nat) : Int) - 1) = (n : Int) := by rw [IntKind.wrap_i64]; omega
  clear hx hy hxp hyp
  go_enter Tryz.func19, Tryz.ntmps19
  go_wp2_with (refine wpList_makeI rfl (.tmp 17) (.tmp 17) 26 rfl w.heap.size 22 .u64 8 Tryz.underlying26 info22 (by decide) .i64 .i64 n rfl rfl (by omega) (Nat.le_refl _) ?_; intro w1 ho1 hb1 hs1; have HO1 := Lib.hid ho1; have HB1 := Lib.hid hb1; clear ho1 hb1)
  have HW0 := Lib.hid (show OL w1 w.heap.size w.heap.size n (stR p (fun t => xs.getD t 0) (fun t => ys.getD t 0) n lb 0 0) by
    have := HO1.out
    unfold OL
    rw [stR_len, stR_zero]
    rw [show nats (List.replicate n 0) = List.replicate n 0 from List.map_replicate ..]
    exact this)
  have SET := Lib.hid fun i k (h : i + k < n) => stR_set p (fun t => xs.getD t 0) (fun t => ys.getD t 0) n lb i k h
  have GET := Lib.hid fun i k m (h : m < n) => stR_get p (fun t => xs.getD t 0) (fun t => ys.getD t 0) n lb i k m h
  clear HO1
  go_loopw [21] (fun v wr => ∃ i : Nat, i ≤ la ∧ v = .int .i64 i ∧ Hid (OL wr w.heap.size w.heap.size n (stR p (fun t => xs.getD t 0) (fun t => ys.getD t 0) n lb i 0)) ∧ Hid (Below w.heap.size w wr)) (fun v _ => la - (intOf v).toNat)
  case atStart => exact ⟨0, Nat.zero_le _, rfl, HW0, HB1⟩
  case round =>
    clear HW0 HB1
    obtain ⟨i, hi, rfl, HO, HB⟩ := hrel
    by_cases hlt : i < la
    · obtain ⟨ad', e, hcx⟩ := RI.nat (HX.out.below HB.out) (i := i) (by omega)
      cases e
      have g0 : (0 : Int) ≤ (i : Int) := by omega
      have g1 : (i : Int) < (la : Int) := by omega
      have hxi := XP.out i hlt
      have hx2 : xs.getD i 0 = xs.getD i 0 := rfl
      generalize hxx : xs.getD i 0 = x at hcx hxi
      have HXX := Lib.hid hxx
      clear hxx hx2
      go_wp2_with fail
      clear hcx
      go_loopw [28] (fun v wr => ∃ k : Nat, k ≤ lb ∧ v = .int .i64 k ∧ Hid (OL wr w.heap.size w.heap.size n (stR p (fun t => xs.getD t 0) (fun t => ys.getD t 0) n lb i k)) ∧ Hid (Below w.heap.size w wr)) (fun v _ => lb - (intOf v).toNat)
      case atStart => exact ⟨0, Nat.zero_le _, rfl, HO, HB⟩
      case round =>
        clear HO HB
        obtain ⟨k, hk, rfl, HO, HB⟩ := hrel
        by_cases hlk : k < lb
        · obtain ⟨bd', e, hcy⟩ := RI.nat (HY.out.below HB.out) (i := k) (by omega)
          cases e
          have g2 : (0 : Int) ≤ (k : Int) := by omega
          have g3 : (k : Int) < (lb : Int) := by omega
          have hat : i + k < n := by omega
          have hyk := YP.out k hlk
          have c0 := HO.out.cell (k := i + k) (by rw [stR_len]; exact hat)
          rw [GET.out i k _ hat] at c0
          have f0 := HO.out.frozen (i + k)
          have SE := Lib.hid (SET.out i k hat)
          have hse := SE.out
          rw [HXX.out] at hse
          have SE2 := Lib.hid hse
          clear hse SE
          have hpp : 0 < p := h1p
          have hacR : accS (fun t => xs.getD t 0) (fun t => ys.getD t 0) lb i k (i + k) % p < Mg.R := Nat.lt_trans (Nat.mod_lt _ hpp) hR
          have CM1 := Lib.hid (CM.out wr x (ys.getD k 0) hxi hyk)
          have CA1 := Lib.hid (CA.out wr (accS (fun t => xs.getD t 0) (fun t => ys.getD t 0) lb i k (i + k) % p) (x * ys.getD k 0 % p) hacR (Nat.lt_trans (Nat.mod_lt _ hpp) hR))
          have HO2 := Lib.hid fun q => OL.put (OL.drewN HO.out q) (i + k) ((accS (fun t => xs.getD t 0) (fun t => ys.getD t 0) lb i k (i + k) % p + x * ys.getD k 0 % p) % p)
          have HB2 := Lib.hid fun q => ((below_drewN HB.out q).setCell (p := ⟨w.heap.size, i + k, none⟩) (Nat.le_refl _) (.int .u64 (((accS (fun t => xs.getD t 0) (fun t => ys.getD t 0) lb i k (i + k) % p + x * ys.getD k 0 % p) % p : Nat) : Int)))
          have i1 : IntKind.i64.wrap ((i : Int) + (k : Int)) = ((i + k : Nat) : Int) := by rw [IntKind.wrap_i64]; omega
          clear hacR
          generalize (accS (fun t => xs.getD t 0) (fun t => ys.getD t 0) lb i k (i + k) % p + x * ys.getD k 0 % p) % p = nw at *
          generalize x * ys.getD k 0 % p = pr at *
          generalize accS (fun t => xs.getD t 0) (fun t => ys.getD t 0) lb i k (i + k) % p = od at *
          generalize ys.getD k 0 = y at *
          generalize i + k = a at *
          have i4 : (0 : Int) ≤ (a : Int) := by omega
          have i5 : (a : Int) < (n : Int) := by omega
          go_wp2_with fail
          have hd0 : wr.drew = wr.drewN 1 := rfl
          have C1q := Lib.hid (CM1.out.q 1)
          have C2q := Lib.hid (fun q => CA1.out.q q)
          go_region_with
            (first
            | (go_at_call 53; refine C1q.out.mono ?_; rintro e w' ⟨rfl, kq, rfl⟩)
            | (go_at_call 52; refine (C2q.out _).mono ?_; rintro e w' ⟨rfl, kr, rfl⟩))
          all_goals (
            go_wp2_with fail
            go_roundw
            case rel => exact ⟨k + 1, by omega, by go_num, by rw [← SE2.out]; exact Lib.hid (HO2.out _), Lib.hid (HB2.out _)⟩
            case measure => simp [intOf]; omega)
        · have hkk : k = lb := by omega
          subst hkk
          have hOn := HO.out
          rw [stR_next] at hOn
          go_wp2_with fail
          go_roundw
          case rel => exact ⟨i + 1, by omega, by go_num, Lib.hid hOn, HB⟩
          case measure => simp [intOf]; omega
    · have hii : i = la := by omega
      subst hii
      go_wp2_with fail
      go_ret
      exact ⟨_, rfl, HO.out, HB.out⟩
end Go.Proofs.YtpkpadepccneeaaGreatDoor

/- The walks of the reference's Good, of one list and of two. No condition. -/
namespace Go.Proofs.YtpkpadepccneeaaGreatDoor
open Go Go.RowKit Go.Shelf
set_option linter.unusedVariables false
set_option linter.unusedSimpArgs false
def goodL (p : Nat) (xs : List Nat) : Bool := xs.all fun x => decide (x < p)
theorem goodL_iff {p : Nat} {xs : List Nat} : goodL p xs = true ↔ ∀ j, j < xs.length → xs.getD j 0 < p := by
  unfold goodL
  rw [List.all_eq_true]
  constructor
  · intro h j hj
    rw [List.getD_eq_getElem?_getD, List.getElem?_eq_getElem hj]
    simpa using h _ (List.getElem_mem hj)
  · intro h x hx
    obtain ⟨j, hj, rfl⟩ := List.getElem_of_mem hx
    have := h j hj
    rw [List.getD_eq_getElem?_getD, List.getElem?_eq_getElem hj] at this
    simpa using this
theorem goodL_no {p : Nat} {xs : List Nat} {j : Nat} (hj : j < xs.length) (h : ¬ xs.getD j 0 < p) : goodL p xs = false := by
  rw [Bool.eq_false_iff]
  exact fun e => h (goodL_iff.1 e j hj)
set_option maxHeartbeats 1000000 in
theorem rGood_any (p n : Nat) (A : Option Addr) (c : Nat) (xs : List Nat) (w : World) (hr : RI .u64 w A (nats xs)) (hl : xs.length = n) (hm : n ≤ 9223372036854775807) :
    Rd 45 #[.int .u64 p, .slice A n c] w (.bool (goodL p xs)) := by
  refine Rd.of_drawn fun q => ?_
  have HR := Lib.hid hr
  have HY := Lib.hid fun (h : ∀ j, j < n → xs.getD j 0 < p) => (show goodL p xs = true from goodL_iff.2 (by rw [hl]; exact h))
  have HN := Lib.hid fun j (hj : j < n) (h : ¬ xs.getD j 0 < p) => goodL_no (hl ▸ hj) h
  clear hr
  go_enter Tryz.func45, Tryz.ntmps45
  go_wp2_with fail
  go_loopw [9] (fun i wr => ∃ k m : Nat, k ≤ n ∧ i = .int .i64 k ∧ wr = w.drewN m ∧ q ≤ m ∧ Hid (∀ j, j < k → xs.getD j 0 < p)) (fun i _ => n - (intOf i).toNat)
  case atStart => exact ⟨0, q, by omega, rfl, rfl, by omega, Lib.hid (fun j hj => absurd hj (by omega))⟩
  case round =>
    obtain ⟨k, m, hk, rfl, rfl, hqm, HL⟩ := hrel
    by_cases hlt : k < n
    · obtain ⟨ad, rfl, hc⟩ := RI.nat (HR.out.drewN m) (i := k) (by omega)
      have hi0 : (0 : Int) ≤ (k : Int) := by omega
      have hi1 : (k : Int) < (n : Int) := by omega
      by_cases hxp : xs.getD k 0 < p
      · have HL2 := Lib.hid (show ∀ j, j < k + 1 → xs.getD j 0 < p from fun j hj => by
          by_cases e : j = k
          · subst e; exact hxp
          · exact HL.out j (by omega))
        have g1 : decide ((p : Int) ≤ ((xs.getD k 0 : Nat) : Int)) = false := decide_eq_false (by omega)
        have g1' : decide (p ≤ xs.getD k 0) = false := decide_eq_false (by omega)
        clear hxp
        generalize xs.getD k 0 = x at *
        go_wp2_with fail
        go_roundw
        case rel => exact ⟨k + 1, m, by omega, by go_num, by trivial, hqm, HL2⟩
        case measure => simp [intOf]; omega
      · have hg := HN.out k hlt hxp
        have g1 : decide ((p : Int) ≤ ((xs.getD k 0 : Nat) : Int)) = true := decide_eq_true (by omega)
        have g1' : decide (p ≤ xs.getD k 0) = true := decide_eq_true (by omega)
        have HG := Lib.hid hg
        clear hxp hg
        generalize xs.getD k 0 = x at *
        go_wp2_with fail
        go_ret
        exact ⟨by rw [HG.out]; rfl, drawn_le (by omega)⟩
    · have hkk : k = n := by omega
      subst hkk
      have HG := Lib.hid (HY.out HL.out)
      go_wp2_with fail
      go_ret
      exact ⟨by rw [HG.out]; rfl, drawn_le (by omega)⟩
theorem good2_any (p n m : Nat) (A B : Option Addr) (c d : Nat) (xs ys : List Nat) (w : World) (hx : RI .u64 w A (nats xs)) (hy : RI .u64 w B (nats ys)) (hl : xs.length = n) (hlm : ys.length = m) (hn : n ≤ 9223372036854775807) (hm : m ≤ 9223372036854775807) :
    Rd 17 #[.int .u64 p, .slice A n c, .slice B m d] w (.bool (goodL p xs && goodL p ys)) := by
  refine Rd.of_drawn fun q => ?_
  have C1 := rGood_any p n A c xs w hx hl hn
  have C2 := rGood_any p m B d ys w hy hlm hm
  clear hx hy
  generalize goodL p xs = a at *
  generalize goodL p ys = b at *
  go_enter Tryz.func17, Tryz.ntmps17
  go_wp2_with fail
  with_reducible refine (Rd.go (C1) _).mono ?_
  rintro e_ w_ ⟨rfl, k1, rfl⟩
  cases a
  · go_wp2_with fail
    go_ret
    exact ⟨rfl, drawn_le (by omega)⟩
  · go_wp2_with fail
    with_reducible refine (Rd.go (C2) _).mono ?_
    rintro e_ w_ ⟨rfl, k2, rfl⟩
    go_wp2_with fail
    go_ret
    exact ⟨by simp, drawn_le (by omega)⟩
end Go.Proofs.YtpkpadepccneeaaGreatDoor
