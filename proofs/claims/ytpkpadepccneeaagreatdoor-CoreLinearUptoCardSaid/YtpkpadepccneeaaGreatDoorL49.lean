/- The walk of the law CoreLinear: it answers true. No condition. -/
import Derived.Test.YtpkpadepccneeaaGreatDoorL48
import Derived.Test.YtpkpadepccneeaaGreatDoorL32
import Derived.Test.YtpkpadepccneeaaGreatDoorL36
import Derived.Test.YtpkpadepccneeaaGreatDoorL37
import Derived.Test.YtpkpadepccneeaaGreatDoorL35
import Derived.Test.YtpkpadepccneeaaGreatDoorL38
import Derived.Test.YtpkpadepccneeaaGreatDoorRows
import Derived.Test.YtpkpadepccneeaaGreatDoorL09
import Derived.Test.YtpkpadepccneeaaGreatDoorL24
namespace Go.Proofs.YtpkpadepccneeaaGreatDoor
open Go.RowKit
set_option linter.unusedVariables false
set_option linter.unusedSimpArgs false
theorem RI.some {w : World} {A : Option Addr} {l : List Int} {k : IntKind} (h : RI k w A l) (hl : 0 < l.length) : ∃ ad, A = Option.some ad := by
  obtain ⟨ad, e, _⟩ := h 0 hl
  exact ⟨ad, e⟩
/-- The product by the transform, as a list. -/
def cvL (p n N : Nat) (xs ys : List Nat) : List Nat := (List.range n).map fun m => F.conv (fun t => xs.getD t 0) (fun t => ys.getD t 0) N m % p
theorem cvL_len (p n N : Nat) (xs ys : List Nat) : (cvL p n N xs ys).length = n := by simp [cvL]
theorem cvL_get {p n N m : Nat} {xs ys : List Nat} (hm : m < n) : (cvL p n N xs ys).getD m 0 = F.conv (fun t => xs.getD t 0) (fun t => ys.getD t 0) N m % p := mapget _ _ _ hm
theorem cvL_stR {p n N la lb : Nat} {xs ys : List Nat} (hla : xs.length = la) (hlb : ys.length = lb) (h1 : la ≤ N) (h2 : lb ≤ N) : stR p (fun t => xs.getD t 0) (fun t => ys.getD t 0) n lb la 0 = cvL p n N xs ys := by
  unfold stR cvL
  refine List.map_congr_left fun m _ => ?_
  rw [accS_conv (N := N) h1 h2 (fun i hi => by rw [List.getD_eq_getElem?_getD, List.getElem?_eq_none (by omega)]; rfl) (fun i hi => by rw [List.getD_eq_getElem?_getD, List.getElem?_eq_none (by omega)]; rfl)]
theorem nats_RI {w : World} {g : Nat} {zs : List Nat} (h : ∀ m, m < zs.length → w.cell? ⟨g, m, none⟩ = Option.some (.int .u64 ((zs.getD m 0 : Nat) : Int))) : RI .u64 w (Option.some ⟨g, 0, none⟩) (nats zs) := fun i hi => by
  rw [nats_len] at hi
  refine ⟨_, rfl, ?_⟩
  rw [nats_get, addr_add, Nat.zero_add]
  exact h i hi
theorem w_two {j q : Nat} (hj : j ≤ 62) (hq : 2 ^ j = q) : q ≤ 4611686018427387904 ∧ 0 < q := by
  subst hq
  have : 2 ^ j ≤ 2 ^ 62 := Nat.pow_le_pow_right (by decide) hj
  exact ⟨this, Nat.two_pow_pos _⟩
set_option maxRecDepth 100000 in
set_option maxHeartbeats 8000000 in
theorem lin_law (kind k : Int) (P : Nat) (A : Option Addr) (l : List Ent) (c : Nat) (A1 A2 : Option Addr) (c1 c2 : Nat) (xs ys : List Nat) (w : World) (hl : EI w A l) (hc1 : l.length ≤ c) (hc2 : c ≤ maxLen) (ho : Oks l) (hP : P < Mg.R)
    (hbig : ∀ i, i < l.length → (l.getD i .z).fs.length ≤ 1048576) (hx : RI .u64 w A1 (nats xs)) (hy : RI .u64 w A2 (nats ys)) (hxm : xs.length ≤ 9223372036854775807) (hym : ys.length ≤ 9223372036854775807)
    (htab : Lib.TabIs Tryz.prog w "internal/strconv.uint64pow10" .u64 Lib.pow10Tab) :
    Calls Tryz.prog 5 #[.agg #[.int .i64 kind, .int .i64 k, .int .u64 P, .slice A l.length c], .slice A1 xs.length c1, .slice A2 ys.length c2] w fun e w' => e = .returned (.bool true) ∧ Below w.heap.size w w' := by
  have HB0 := Lib.hid ((Below.refl w.heap.size w).alloc (Nat.le_refl _) (.cells #[.int .i64 kind, .int .i64 k, .int .u64 P, .slice A l.length c] 25))
  have K0 := Lib.hid (Blk.new w 25 #[.int .i64 kind, .int .i64 k, .int .u64 P, .slice A l.length c])
  have AL := Lib.hid (alive_any (w.alloc (.cells #[.int .i64 kind, .int .i64 k, .int .u64 P, .slice A l.length c] 25)) (Lib.tabBelow_of_tabIs htab _ HB0.out))
  have CM := Lib.hid fun W (hb : Below w.heap.size w W) => made_any kind k P A l c W (hl.below hb) hc1 hc2 ho hP hbig
  have HX := Lib.hid hx
  have HY := Lib.hid hy
  clear hl ho hbig hx hy hc2 hP htab
  generalize hla : xs.length = la at *
  generalize hlb : ys.length = lb at *
  have HLA := Lib.hid hla
  have HLB := Lib.hid hlb
  clear hla hlb
  generalize l.length = nl at *
  go_enter Tryz.func5, Tryz.ntmps5
  go_wp2_with fail
  with_reducible refine (AL.out).mono ?_
  rintro e w1 ⟨rfl, hb1⟩
  have B1 := Lib.hid (below_then HB0.out HB0.out.size hb1)
  have K1 := Lib.hid (K0.out.below hb1 K0.out.lt)
  clear hb1 AL K0 HB0
  have x0 := K1.out.cell 0
  have x1 := K1.out.cell 1
  have x2 := K1.out.cell 2
  have x3 := K1.out.cell 3
  go_wp2_with fail
  with_reducible refine ((CM.out w1 B1.out)).mono ?_
  rintro e w2 ⟨fv, p, g, rfl, hmd, hb2⟩
  have B2 := Lib.hid (below_then B1.out B1.out.size hb2)
  have HMD := Lib.hid hmd
  clear hb2 hmd CM x0 x1 x2 x3 K1
  by_cases hp0 : p = 0
  · have z0 : ((p : Int) == 0) = true := by rw [hp0]; rfl
    clear hp0
    go_wp2_with fail
    go_ret
    exact ⟨rfl, B2.out⟩
  have z0 : ((p : Int) == 0) = false := beq_eq_false_iff_ne.2 (by omega)
  have z0' : (p == 0) = false := beq_eq_false_iff_ne.2 hp0
  by_cases h1 : 40 < la
  · have z1 : decide ((40 : Int) < (la : Int)) = true := decide_eq_true (by omega)
    have z1' : decide (40 < la) = true := decide_eq_true h1
    clear hp0 h1
    go_wp2_with fail
    go_ret
    exact ⟨rfl, B2.out⟩
  have z1 : decide ((40 : Int) < (la : Int)) = false := decide_eq_false (by omega)
  have z1' : decide (40 < la) = false := decide_eq_false h1
  by_cases h2 : 40 < lb
  · have z2 : decide ((40 : Int) < (lb : Int)) = true := decide_eq_true (by omega)
    have z2' : decide (40 < lb) = true := decide_eq_true h2
    clear hp0 h1 h2
    go_wp2_with fail
    go_ret
    exact ⟨rfl, B2.out⟩
  have z2 : decide ((40 : Int) < (lb : Int)) = false := decide_eq_false (by omega)
  have z2' : decide (40 < lb) = false := decide_eq_false h2
  by_cases h3 : la = 0
  · have z3 : ((la : Int) == 0) = true := by rw [h3]; rfl
    clear hp0 h1 h2 h3
    go_wp2_with fail
    go_ret
    exact ⟨rfl, B2.out⟩
  have z3 : ((la : Int) == 0) = false := beq_eq_false_iff_ne.2 (by omega)
  have z3' : (la == 0) = false := beq_eq_false_iff_ne.2 h3
  by_cases h4 : lb = 0
  · have z4 : ((lb : Int) == 0) = true := by rw [h4]; rfl
    clear hp0 h1 h2 h3 h4
    go_wp2_with fail
    go_ret
    exact ⟨rfl, B2.out⟩
  have z4 : ((lb : Int) == 0) = false := beq_eq_false_iff_ne.2 (by omega)
  have z4' : (lb == 0) = false := beq_eq_false_iff_ne.2 h4
  have C17 := Lib.hid (good2_any p la lb A1 A2 c1 c2 xs ys w2 (HX.out.below B2.out) (HY.out.below B2.out) HLA.out HLB.out hxm hym)
  cases hgd : (goodL p xs && goodL p ys) with
  | false =>
    rw [hgd] at C17
    clear hp0 h1 h2 h3 h4 hgd
    go_wp2_with fail
    with_reducible refine (C17.out.now).mono ?_
    rintro e_ w_ ⟨rfl, k1, rfl⟩
    go_wp2_with fail
    go_ret
    exact ⟨rfl, below_drewN B2.out _⟩
  | true =>
    rw [hgd] at C17
    obtain ⟨gf, G, hfv, hfg⟩ : ∃ gf G, fv = .pointer (some ⟨gf, 0, none⟩) ∧ FG w2 gf p G := by
      rcases HMD.out with h | h
      · exact absurd h hp0
      · exact h
    subst hfv
    rw [Bool.and_eq_true, goodL_iff, goodL_iff] at hgd
    obtain ⟨hgx, hgy⟩ := hgd
    rw [HLA.out] at hgx
    rw [HLB.out] at hgy
    obtain ⟨ad, hA1⟩ := RI.some HX.out (by rw [nats_len, HLA.out]; omega)
    obtain ⟨bd, hA2⟩ := RI.some HY.out (by rw [nats_len, HLB.out]; omega)
    subst hA1
    subst hA2
    obtain ⟨n, hn⟩ : ∃ n, la + lb = n + 1 := ⟨la + lb - 1, by omega⟩
    obtain ⟨K, hK, hK1, hK2⟩ := pad_ex n 7 (by rw [show (2 : Nat) ^ 7 = 128 from rfl]; omega)
    have HSD := Lib.hid (someB_divs p n K (by omega) hK1 hK2)
    have HFG := Lib.hid hfg
    have HPR := Lib.hid hfg.prime
    have hpo := hfg.fd.odd
    have hp3 := hfg.fd.low
    have hpR : p < Mg.R := by have := hfg.fd.high; simp only [Mg.R]; omega
    have hGR : G < Mg.R := Nat.lt_trans hfg.gp hpR
    have hla1 : 1 ≤ la := by omega
    have hlb1 : 1 ≤ lb := by omega
    have CLY := Lib.hid fun W (hb : Below w2.heap.size w2 W) (hb0 : Below w.heap.size w W) (hd : divs p ((2 ^ K : Nat) : Int) = true) => Linear_yes gf p G la lb n K ad bd c1 c2 xs ys W (hfg.fd.below hb) hGR (HX.out.below hb0) (HY.out.below hb0) HLA.out HLB.out hla1 hlb1 hn (by omega) (by omega) hK1 hK2 hgx hgy hfg.prime hfg.order hd
    have CLN := Lib.hid fun W (hb : Below w2.heap.size w2 W) (hd : divs p ((2 ^ K : Nat) : Int) = false) => Linear_no gf p G la lb n K ad bd c1 c2 W (hfg.fd.below hb) hla1 hlb1 hn (by omega) (by omega) hK1 hK2 hd
    have CST := Lib.hid fun W (hb0 : Below w.heap.size w W) => Straight_any p la lb n ad bd c1 c2 xs ys W (by omega) hpR (HX.out.below hb0) (HY.out.below hb0) HLA.out HLB.out hla1 hlb1 hn (by omega) (fun j hj => Nat.lt_trans (hgx j hj) hpR) (fun j hj => Nat.lt_trans (hgy j hj) hpR)
    have HEQ := Lib.hid (cvL_stR (p := p) (n := n) (N := 2 ^ K) HLA.out HLB.out (by omega) (by omega))
    have s1 : IntKind.i64.wrap ((la : Int) + (lb : Int)) = ((n + 1 : Nat) : Int) := by rw [IntKind.wrap_i64]; omega
    have s2 : IntKind.i64.wrap (((n + 1 : Nat) : Int) - 1) = (n : Int) := by rw [IntKind.wrap_i64]; omega
    have s3 : IntKind.u64.wrap (n : Int) = (n : Int) := w_small (by omega) (by omega)
    have s4 := u64_dec p (by omega) hpR
    have hn79 : n ≤ 79 := by omega
    clear hp0 h1 h2 h3 h4 hfg hgx hgy hK hK1 hK2 hpo hp3 hGR hla1 hlb1 HMD hxm hym hpR
    go_wp2_with fail
    with_reducible refine (C17.out.now).mono ?_
    rintro e_ w_ ⟨rfl, k1, rfl⟩
    obtain ⟨V, hV⟩ : ∃ V, w2.drewN k1 = V := ⟨_, rfl⟩
    have BV2 := Lib.hid (show Below w2.heap.size w2 V by rw [← hV]; exact below_drewN (Below.refl _ _) _)
    have BV := Lib.hid (show Below w.heap.size w V by rw [← hV]; exact below_drewN B2.out _)
    rw [hV]
    clear hV C17
    go_wp2_with fail
    go_loopw [10, 11] (fun sv kv wr => ∃ j : Nat, sv = .bool (someB p n j) ∧ kv = .int .u64 ((2 ^ j : Nat) : Int) ∧ j ≤ 63 ∧ wr = V) (fun _ kv _ => 9223372036854775808 - (intOf kv).toNat)
    case atStart => exact ⟨0, by first | rfl | trivial, by first | rfl | simp, by omega, by first | rfl | trivial⟩
    case round =>
      obtain ⟨j, rfl, rfl, hj, hw⟩ := hrel
      subst hw
      by_cases hj2 : j ≤ 62
      · obtain ⟨hq1, hq2⟩ := w_two hj2 rfl
        have HSN := Lib.hid (show someB p n (j + 1) = (someB p n j || (decide (n ≤ 2 ^ j) && decide ((p - 1) % 2 ^ j = 0))) from rfl)
        have eW : IntKind.u64.wrap (2 * ((2 ^ j : Nat) : Int)) = ((2 ^ (j + 1) : Nat) : Int) := by
          have e : ((2 ^ (j + 1) : Nat) : Int) = 2 * ((2 ^ j : Nat) : Int) := by rw [Nat.pow_succ]; omega
          rw [e]
          exact w_small (by omega) (by omega)
        have e2 : 2 ^ (j + 1) = 2 * 2 ^ j := by rw [Nat.pow_succ]; omega
        have HE2 := Lib.hid e2
        clear e2
        generalize hq2 : 2 ^ (j + 1) = q2 at *
        have HQ2 := Lib.hid hq2
        clear hq2
        generalize 2 ^ j = q at *
        generalize someB p n j = sb at *
        have t0 : decide ((q : Int) ≤ 4611686018427387904) = true := decide_eq_true (by omega)
        have t0' : decide (q ≤ 4611686018427387904) = true := decide_eq_true hq1
        have t1 : ¬ (q : Int) = 0 := by omega
        have t1' : ¬ q = 0 := by omega
        have t2 : ((p - 1 : Nat) : Int) % (q : Int) = (((p - 1) % q : Nat) : Int) := (Int.natCast_emod _ _).symm
        by_cases hnq : n ≤ q
        · have t3 : decide ((n : Int) ≤ (q : Int)) = true := decide_eq_true (by omega)
          have t3' : decide (n ≤ q) = true := decide_eq_true hnq
          by_cases hmz : (p - 1) % q = 0
          · have HB3 := Lib.hid (show someB p n (j + 1) = true by rw [HSN.out, t3', hmz]; simp)
            have t4 : (((p - 1) % q : Nat) : Int) = 0 := by omega
            rw [t4] at t2
            clear hnq hmz t4
            generalize p - 1 = p1 at *
            go_wp2_with fail
            go_roundw
            case rel => exact ⟨j + 1, by rw [HB3.out], by rw [HQ2.out], by omega, by first | rfl | trivial⟩
            case measure => have := HE2.out; simp [intOf]; omega
          · have HB3 := Lib.hid (show someB p n (j + 1) = sb by rw [HSN.out, decide_eq_false hmz]; simp)
            have t4 : ((((p - 1) % q : Nat) : Int) == 0) = false := beq_eq_false_iff_ne.2 (by omega)
            clear hnq
            generalize (p - 1) % q = r at *
            generalize p - 1 = p1 at *
            go_wp2_with fail
            go_roundw
            case rel => exact ⟨j + 1, by rw [HB3.out], by rw [HQ2.out], by omega, by first | rfl | trivial⟩
            case measure => have := HE2.out; simp [intOf]; omega
        · have t3 : decide ((n : Int) ≤ (q : Int)) = false := decide_eq_false (by omega)
          have t3' : decide (n ≤ q) = false := decide_eq_false hnq
          have HB3 := Lib.hid (show someB p n (j + 1) = sb by rw [HSN.out, t3']; simp)
          clear hnq
          generalize (p - 1) % q = r at *
          generalize p - 1 = p1 at *
          go_wp2_with fail
          go_roundw
          case rel => exact ⟨j + 1, by rw [HB3.out], by rw [HQ2.out], by omega, by first | rfl | trivial⟩
          case measure => have := HE2.out; simp [intOf]; omega
      · have hj63 : j = 63 := by omega
        subst hj63
        have hs := HSD.out
        generalize someB p n 63 = sb at *
        generalize hq : (2 : Nat) ^ 63 = q at *
        have t0 : decide ((q : Int) ≤ 4611686018427387904) = false := decide_eq_false (by rw [← hq]; decide)
        have t0' : decide (q ≤ 4611686018427387904) = false := decide_eq_false (by rw [← hq]; decide)
        clear hq HSD
        cases hd : divs p ((2 ^ K : Nat) : Int) with
        | false =>
          rw [hd] at hs
          subst hs
          have C := Lib.hid (CLN.out wr BV2.out hd)
          clear hd CLY CLN CST HEQ
          go_wp2_with fail
          with_reducible refine (C.out.now).mono ?_
          rintro e_ w_ ⟨rfl, k9, rfl⟩
          go_wp2_with fail
          go_ret
          exact ⟨rfl, below_drewN BV.out _⟩
        | true =>
          rw [hd] at hs
          subst hs
          have C := Lib.hid (CLY.out wr BV2.out BV.out hd)
          clear hd CLY CLN
          go_wp2_with fail
          with_reducible refine (C.out).mono ?_
          rintro e w3 ⟨g', c', rfl, hcells, hg', hb3⟩
          have B3 := Lib.hid (below_then BV.out BV.out.size hb3)
          have HR := Lib.hid (show RI .u64 w3 (some ⟨g', 0, none⟩) (nats (cvL p n (2 ^ K) xs ys)) from nats_RI fun m hm => by
            rw [cvL_len] at hm
            rw [cvL_get hm]
            exact hcells m hm)
          have C2 := Lib.hid (CST.out w3 B3.out)
          clear hcells hg' hb3 C CST
          go_wp2_with fail
          with_reducible refine C2.out.mono ?_
          rintro e_ w4 ⟨g2, rfl, hol, hb4⟩
          rw [HEQ.out] at hol
          have B4 := Lib.hid (below_then B3.out B3.out.size hb4)
          have C3 := Lib.hid (show Calls Tryz.prog 13 #[.slice (some ⟨g', 0, none⟩) n c', .slice (some ⟨g2, 0, none⟩) n n] w4 fun e w' => e = .returned (.bool true) ∧ Drawn w4 w' from by
            have h := same_any (some ⟨g', 0, none⟩) (some ⟨g2, 0, none⟩) c' n (nats (cvL p n (2 ^ K) xs ys)) (nats (cvL p n (2 ^ K) xs ys)) w4 (HR.out.below hb4) (nats_RI fun m hm => hol.cell hm) (by rw [nats_len, cvL_len]; omega)
            rw [nats_len, cvL_len, decide_eq_true rfl] at h
            exact h)
          clear hol hb4 C2 HR HEQ
          go_wp2_with fail
          with_reducible refine C3.out.mono ?_
          rintro e_ w5 ⟨rfl, hdr⟩
          have B5 := Lib.hid (B4.out.trans (hdr.below _))
          clear hdr
          go_wp2_with fail
          go_ret
          exact ⟨rfl, B5.out⟩
end Go.Proofs.YtpkpadepccneeaaGreatDoor

/- Entries among a law's arguments: each one's factors are no more than what is read has values. No condition. -/
namespace Go.Proofs.YtpkpadepccneeaaGreatDoor
set_option linter.unusedVariables false
set_option linter.unusedSimpArgs false
open Go.Joins Go.ChangeShapes Go.WideShapes Go.RowKit Go.Deep
theorem bulk_pos {H : Type} (d : DataW H) : 1 ≤ Rows.uptoBulk d := by
  cases d with
  | lit x => cases x <;> simp [Rows.uptoBulk]
  | _ => simp [Rows.uptoBulk]
theorem bulk_mem {H : Type} {d : DataW H} : ∀ {ds : List (DataW H)}, d ∈ ds → Rows.uptoBulk d ≤ Rows.uptoBulkAll ds
  | [], h => by cases h
  | e :: r, h => by
    rw [Rows.uptoBulkAll]
    rcases List.mem_cons.1 h with rfl | h
    · omega
    · have := bulk_mem h; omega
theorem bulk_len {H : Type} : ∀ ds : List (DataW H), ds.length ≤ Rows.uptoBulkAll ds
  | [] => Nat.zero_le _
  | e :: r => by
    rw [Rows.uptoBulkAll, List.length_cons]
    have := bulk_len r
    have := bulk_pos e
    omega
section
variable {H : Type} {enc : TypeId × Value → H} {w : World} {base : Nat} {spare : Nat → Bool} {held : Bool}
theorem facs_bulk {fuel n c : Nat} {F : Option Addr} {x : DataW H × List MemPlace} (h : DataW.trod enc Tryz.prog w base spare held fuel 63 [.slice F n c] = some x) : n ≤ Rows.uptoBulk x.1 := by
  rcases open_slice Tryz.underlying63 h with ⟨h0, _⟩ | ⟨a, len, cap, m, k, D, Pl, hcs, hb, hl, hm, hmm, hx, hi⟩
  · simp at h0
    omega
  · simp at hcs
    obtain ⟨rfl, rfl, rfl⟩ := hcs
    subst hx
    show n ≤ Rows.uptoBulk (DataW.slice _ _)
    rw [Rows.uptoBulk]
    have := bulk_len ((List.range n).map D)
    rw [List.length_map, List.length_range] at this
    omega
set_option maxRecDepth 100000 in
theorem ents_bulk {fuel c : Nat} {A : Option Addr} {l : List Ent} {x : DataW H × List MemPlace} (h : DataW.trod enc Tryz.prog w base spare held fuel 23 [.slice A l.length c] = some x) (hE : EI w A l) : ∀ i, i < l.length → (l.getD i .z).fs.length ≤ Rows.uptoBulk x.1 := by
  intro i hil
  rcases open_slice Tryz.underlying23 h with ⟨h0, _⟩ | ⟨a, len, cap, m, k, D, Pl, hcs, hb, hl, hm, hmm, hx, hi⟩
  · simp only [List.cons.injEq, Value.slice.injEq, and_true] at h0
    omega
  · simp only [List.cons.injEq, Value.slice.injEq, and_true] at hcs
    obtain ⟨rfl, hlen, rfl⟩ := hcs
    obtain ⟨b, o, F, cf, e, c0, c1, c2, _, _⟩ := hE i hil
    simp only [Option.some.injEq] at e
    subst e
    have him : i < m := by rw [hmm]; split <;> omega
    obtain ⟨cs', hc, ht'⟩ := hi i him
    have h3 : Tryz.prog.cellsOf 65 = 3 := by kernel_rfl
    rw [h3] at hc
    obtain ⟨ys, n', hn', hy, hcl2, hyl, hf⟩ := DataW.trod_struct Tryz.underlying65 ht'
    obtain ⟨_, hcl, hat⟩ := World.cells?_some hc
    have hcell := hat 2 (by decide)
    rw [show ((⟨b, o, none⟩ : Addr).add (i * 3)).add 2 = ⟨b, o + i * 3 + 2, none⟩ by rw [addr_add, addr_add], c2] at hcell
    have h63 : Tryz.prog.cellsOf 63 = 1 := by kernel_rfl
    have h2 := hf 2 _ rfl
    have hone : (cs'.drop 2).take 1 = [Value.slice F (l.getD i .z).fs.length cf] := by
      have hlt : 2 < cs'.length := by omega
      obtain ⟨_, he⟩ := List.getElem?_eq_some_iff.1 hcell.symm
      rw [List.drop_eq_getElem_cons hlt, List.take_succ_cons, List.take_zero, he]
    have h2' : DataW.trod enc Tryz.prog w base spare held n' 63 ((cs'.drop 2).take (Tryz.prog.cellsOf 63)) = ys[2]? := h2
    rw [h63, hone] at h2'
    have hy2 : 2 < ys.length := by rw [hyl]; decide
    rw [List.getElem?_eq_getElem hy2] at h2'
    have hb1 := facs_bulk h2'
    have hb2 : Rows.uptoBulk ys[2].1 ≤ Rows.uptoBulkAll (ys.map (·.1)) := bulk_mem (List.mem_map.2 ⟨_, List.getElem_mem hy2, rfl⟩)
    have hD : D i = .agg (ys.map (·.1)) := by
      have := congrArg Prod.fst hy
      exact this
    have hb3 : Rows.uptoBulk (D i) ≤ Rows.uptoBulkAll ((List.range len).map D) := bulk_mem (List.mem_map.2 ⟨i, List.mem_range.2 (by omega), rfl⟩)
    rw [hD, Rows.uptoBulk] at hb3
    subst hx
    show _ ≤ Rows.uptoBulk (DataW.slice _ _)
    rw [Rows.uptoBulk]
    omega
set_option maxRecDepth 100000 in
/-- A source, opened, with what its bulk bounds. -/
theorem open_source2 {b0 : Nat} {r : Reach} {v : Value} {d : DataW H} {p : List MemPlace} (hv : Value.okWide Tryz.prog w r b0 25 v) (h : DataW.Trod enc Tryz.prog w base spare held 25 v d p) :
    ∃ (kind k : Int) (P : Nat) (A : Option Addr) (l : List Ent) (c : Nat), v = .agg #[.int .i64 kind, .int .i64 k, .int .u64 (P : Int), .slice A l.length c] ∧ P < Mg.R ∧ l.length ≤ c ∧ c ≤ maxLen ∧ EI w A l ∧ Oks l ∧ ∀ i, i < l.length → (l.getD i .z).fs.length ≤ Rows.uptoBulk d := by
  obtain ⟨v0, v1, v2, v3, y0, y1, y2, y3, n, rfl, hd, _, t0, t1, t2, t3⟩ := open_agg4 Tryz.underlying25 (by kernel_rfl) (by kernel_rfl) hv h
  obtain ⟨x0, e0, _, w0⟩ := DataW.trod_int Tryz.underlying3 t0
  obtain ⟨x1, e1, _, w1⟩ := DataW.trod_int Tryz.underlying3 t1
  obtain ⟨x2, e2, _, w2⟩ := DataW.trod_int Tryz.underlying22 t2
  obtain ⟨A, l, c, rfl, h1, h2, h3, h4⟩ := open_ents t3
  simp at e0 e1 e2
  subst e0 e1 e2
  obtain ⟨P, rfl, hP⟩ := wf_u64 w2
  refine ⟨x0, x1, P, A, l, c, rfl, hP, h1, h2, h3, h4, fun i hi => ?_⟩
  have hb := ents_bulk t3 h3 i hi
  subst hd
  rw [Rows.uptoBulk]
  have : Rows.uptoBulk y3.1 ≤ Rows.uptoBulkAll [y0.1, y1.1, y2.1, y3.1] := bulk_mem (by simp)
  omega
end
set_option maxRecDepth 100000 in
/-- A row of numbers among the arguments, as natural numbers. -/
theorem open_row {H : Type} {enc : TypeId × Value → H} {w : World} {base b0 : Nat} {spare : Nat → Bool} {held : Bool} {r : Reach} {v : Value} {d : DataW H} {p : List MemPlace} (hv : Value.okWide Tryz.prog w r b0 26 v) (h : DataW.Trod enc Tryz.prog w base spare held 26 v d p) :
    ∃ (A : Option Addr) (xs : List Nat) (c : Nat), v = .slice A xs.length c ∧ xs.length ≤ 9223372036854775807 ∧ RI .u64 w A (nats xs) := by
  obtain ⟨a0, len0, cap0, rfl⟩ := okWide_slice Tryz.underlying26 hv
  obtain ⟨fuel, hf⟩ := h
  rcases open_ints Tryz.underlying26 Tryz.underlying22 (by kernel_rfl) hf with ⟨hcs, _⟩ | ⟨x, l, c, zs, hcs, _, hl, hm, hz, _, hcell, hwz⟩
  · simp [Value.cells] at hcs
    obtain ⟨rfl, rfl, rfl⟩ := hcs
    exact ⟨none, [], 0, rfl, by simp, RI.nil _ _ _⟩
  · simp [Value.cells] at hcs
    obtain ⟨rfl, rfl, rfl⟩ := hcs
    have hz' : len0 ≤ zs.length := by first | omega | (simp at hz; omega) | (have := hz; split at this <;> omega)
    refine ⟨some x, (zs.take len0).map Int.toNat, cap0, by rw [List.length_map, List.length_take, Nat.min_eq_left hz'], by
      rw [List.length_map, List.length_take]
      simp only [maxLen] at hm
      omega, fun i hi => ?_⟩
    rw [nats_len, List.length_map, List.length_take] at hi
    have hi' : i < zs.length := by omega
    refine ⟨x, rfl, ?_⟩
    rw [nats_get]
    have e1 : ((zs.take len0).map Int.toNat).getD i 0 = (zs.getD i 0).toNat := by
      rw [List.getD_eq_getElem?_getD, List.getElem?_map, List.getElem?_take_of_lt (by omega), List.getD_eq_getElem?_getD, List.getElem?_eq_getElem hi']
      rfl
    have hmem : zs.getD i 0 ∈ zs := getD_mem zs 0 hi'
    obtain ⟨m, hm1, _⟩ := wf_u64 (hwz _ hmem)
    rw [e1, hcell i hi', hm1]
    rfl
end Go.Proofs.YtpkpadepccneeaaGreatDoor
