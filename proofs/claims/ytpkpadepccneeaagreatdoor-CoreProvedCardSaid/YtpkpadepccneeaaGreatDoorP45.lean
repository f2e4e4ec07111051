/- The walks of long at 12 times 12. No condition. -/
import Derived.Test.YtpkpadepccneeaaGreatDoorP44
import Derived.Test.YtpkpadepccneeaaGreatDoorP18
import Derived.Laws.RangeString
import Derived.Lib.AtoiErrMem
namespace Go.Proofs.YtpkpadepccneeaaGreatDoor
set_option linter.unusedVariables false
set_option linter.unusedSimpArgs false
open Go Go.RowKit Go.Shelf
def s12 : ByteArray := ⟨#[49, 50]⟩
set_option maxRecDepth 100000 in
set_option maxHeartbeats 2000000 in
theorem Good_12 (w : World) : Calls Tryz.prog 61 #[.string ⟨#[49, 50]⟩] w fun e w' => e = .returned (.bool true) ∧ Below w.heap.size w w' := by
  have n0 : ∀ ty, (Instr.next (.pointer (some ⟨w.heap.size, 0, none⟩)) true ty).run Tryz.prog (w.iter ⟨#[49, 50]⟩ 0) = .ok (.tuple #[.bool true, .int .i64 0, .int .i32 49]) (w.iter ⟨#[49, 50]⟩ 1) := fun ty => run_next_ascii (P := Tryz.prog) w ⟨#[49, 50]⟩ 0 ty (by decide) (by decide)
  have n1 : ∀ ty, (Instr.next (.pointer (some ⟨w.heap.size, 0, none⟩)) true ty).run Tryz.prog (w.iter ⟨#[49, 50]⟩ 1) = .ok (.tuple #[.bool true, .int .i64 1, .int .i32 50]) (w.iter ⟨#[49, 50]⟩ 2) := fun ty => run_next_ascii (P := Tryz.prog) w ⟨#[49, 50]⟩ 1 ty (by decide) (by decide)
  have n2 : ∀ ty, (Instr.next (.pointer (some ⟨w.heap.size, 0, none⟩)) true ty).run Tryz.prog (w.iter ⟨#[49, 50]⟩ 2) = .ok (.tuple #[.bool false]) (w.iter ⟨#[49, 50]⟩ 2) := fun ty => run_next_end (P := Tryz.prog) w ⟨#[49, 50]⟩ 2 ty (by decide)
  have i0 : ∀ W, (Instr.index 9 (.string ⟨#[49, 50]⟩) (.int .i64 0)).run Tryz.prog W = .ok (.int .u8 49) W := fun _ => by kernel_rfl
  go_enter Tryz.func61, Tryz.ntmps61
  go_wp2_with fail
  refine wp_loop_rounds 4 ?_
  rw [rounds_succ]
  go_wp2_with fail
  rw [rounds_succ]
  go_wp2_with fail
  rw [rounds_succ]
  go_wp2_with fail
  go_ret
  exact ⟨rfl, (Below.refl w.heap.size w).alloc (Nat.le_refl _) (.stringIter ⟨#[49, 50]⟩ 2)⟩
theorem parse_u12 (w : World) : Calls Tryz.prog 166 #[.string ⟨#[49, 50]⟩, .int .i64 10, .int .i64 64] w fun e w' => e = .returned (.tuple #[.int .u64 12, .nilIface]) ∧ Below w.heap.size w w' := by
  refine (Tryz.strconv_ParseUint_10_at64_ok ⟨#[49, 50]⟩ (by decide) 12 (by decide) w).mono ?_
  rintro e w' ⟨rfl, h⟩
  refine ⟨rfl, ?_⟩
  rcases h with rfl | rfl
  · exact Below.refl _ _
  · exact Lib.bytesWorld_below _ _ _
set_option maxRecDepth 100000 in
set_option maxHeartbeats 2000000 in
theorem parse_12 (w : World) : Calls Tryz.prog 112 #[.string ⟨#[49, 50]⟩] w fun e w' => ∃ g c, e = .returned (.slice (some ⟨g, 0, none⟩) 1 c) ∧ One w w' 12 g c := by
  have PU := Lib.hid fun W => parse_u12 W
  have mx : max (-2 : Int) 0 = 0 := by decide
  have ex : (⟨#[49, 50]⟩ : ByteArray).extract 0 2 = ⟨#[49, 50]⟩ := by decide
  have ey : (⟨#[49, 50]⟩ : ByteArray).extract 0 0 = ⟨#[]⟩ := by decide
  go_enter Tryz.func112, Tryz.ntmps112
  go_wp2_with fail
  refine wp_loop_rounds 3 ?_
  rw [rounds_succ]
  go_wp2_with fail
  refine (PU.out _).mono ?_
  rintro e w1 ⟨rfl, hb1⟩
  have B1 := Lib.hid hb1
  clear hb1
  go_wp2_with (at_builtin; refine wpList_append1 rfl (.tmp 21) (.tmp 23) 26 rfl w1.heap.size 22 .u64 8 Tryz.underlying26 info22 (by decide) (.slice none 0 0) [] 12 rfl rfl (OI.nil _ _ _ _) (by simp) (Nat.le_refl _) ?_; intro v w2 ho hb; obtain ⟨g2, c2, rfl, _, ho2⟩ := one_of (x := 12) B1.out ho hb; have O2 := Lib.hid ho2; clear ho hb ho2)
  rw [rounds_succ]
  go_wp2_with fail
  go_ret
  exact ⟨g2, c2, rfl, O2.out⟩
theorem load252 {W : World} {g : Nat} {a b c : Value} (h : Blk W g 252 #[a, b, c]) : W.cell? ⟨g, 0, none⟩ = some a ∧ W.cell? ⟨g, 1, none⟩ = some b ∧ W.cell? ⟨g, 2, none⟩ = some c := ⟨h.cell 0, h.cell 1, h.cell 2⟩
set_option maxRecDepth 100000 in
set_option maxHeartbeats 2000000 in
theorem carried_144 (gj c : Nat) (w : World) (h : Blk w gj 252 #[.int .u64 144, .int .u64 0, .int .u64 0]) : Calls Tryz.prog 114 #[.slice (some ⟨gj, 0, none⟩) 1 c] w fun e w' => ∃ g c, e = .returned (.slice (some ⟨g, 0, none⟩) 1 c) ∧ One w w' 144 g c := by
  obtain ⟨d0, d1, d2⟩ := load252 h
  have B1 := Lib.hid ((Below.refl w.heap.size w).alloc (Nat.le_refl _) (.cells #[.int .u64 144, .int .u64 0, .int .u64 0] 252))
  clear h
  go_enter Tryz.func114, Tryz.ntmps114
  go_wp2_with fail
  refine wp_loop_rounds 2 ?_
  rw [rounds_succ]
  go_upto_region 7 with fail
  generalize w.alloc (.cells #[.int .u64 144, .int .u64 0, .int .u64 0] 252) = W1 at *
  go_wp2_with (at_builtin; refine wpList_append1 rfl (.tmp 18) (.tmp 21) 26 rfl W1.heap.size 22 .u64 8 Tryz.underlying26 info22 (by decide) (.slice none 0 0) [] 144 rfl rfl (OI.nil _ _ _ _) (by simp) (Nat.le_refl _) ?_; intro v w2 ho hb; obtain ⟨g2, c2, rfl, _, ho2⟩ := one_of (x := 144) B1.out ho hb; have O2 := Lib.hid ho2; clear ho hb ho2)
  rw [rounds_succ]
  go_wp2_with fail
  refine wp_loop_rounds 1 ?_
  rw [rounds_succ]
  go_wp2_with fail
  go_ret
  exact ⟨g2, c2, rfl, O2.out⟩
theorem dec_144 : Lib.decDigits 144 = [49, 52, 52] := by
  rw [Lib.decDigits, dif_neg (by decide), Lib.decDigits, dif_neg (by decide), Lib.decDigits, dif_pos (by decide)]
  rfl
set_option maxRecDepth 100000 in
set_option maxHeartbeats 2000000 in
theorem show_144 (ad : Addr) (c : Nat) (w : World) (hx : RI .u64 w (some ad) [144]) (htab : Lib.TabIs Tryz.prog w "internal/strconv.uint64pow10" .u64 Lib.pow10Tab) :
    Calls Tryz.prog 113 #[.slice (some ad) 1 c] w fun e w' => e = .returned (.tuple #[.string ⟨#[49, 52, 52]⟩, .int .i64 0]) ∧ Below w.heap.size w w' := by
  have B1 := Lib.hid ((Below.refl w.heap.size w).alloc (Nat.le_refl _) (.cells #[.pointer none, .slice none 0 0] 245))
  have K1 := Lib.hid (Blk.new w 245 #[.pointer none, .slice none 0 0])
  obtain ⟨ad', h1, hc⟩ := (hx.below B1.out) 0 (by simp)
  cases h1
  have c0 : (w.alloc (.cells #[.pointer none, .slice none 0 0] 245)).cell? (ad.add 0) = some (.int .u64 144) := hc
  have c1 : (w.alloc (.cells #[.pointer none, .slice none 0 0] 245)).cell? ad = some (.int .u64 144) := by rw [addr_zero] at c0; exact c0
  have FU := Lib.hid (show Calls Tryz.prog 167 #[.int .u64 144, .int .i64 10] (w.alloc (.cells #[.pointer none, .slice none 0 0] 245)) fun e w' => e = .returned (.string ⟨#[49, 52, 52]⟩) ∧ Below (w.alloc (.cells #[.pointer none, .slice none 0 0] 245)).heap.size (w.alloc (.cells #[.pointer none, .slice none 0 0] 245)) w' from by
    have h := FormatUint_10 144 (by decide) (by decide) _ (Lib.tabIs_alloc htab (.cells #[.pointer none, .slice none 0 0] 245))
    rw [dec_144] at h
    exact h)
  clear hx htab hc
  go_enter Tryz.func113, Tryz.ntmps113
  go_wp2_with fail
  refine wp_loop_rounds 1 ?_
  rw [rounds_succ]
  go_wp2_with fail
  refine wp_loop_rounds 2 ?_
  rw [rounds_succ]
  go_wp2_with fail
  refine FU.out.mono ?_
  rintro e w2 ⟨rfl, hb2⟩
  have B2 := Lib.hid (below_then B1.out B1.out.size hb2)
  have K2 := Lib.hid (K1.out.below hb2 K1.out.lt)
  have HB := Lib.hid (show Lib.BuilderAt 245 5 w.heap.size w.heap.size (.pointer none) [] w2 from ⟨Nat.le_refl _, .slice none 0 0, K2.out, World.ownsRow_nil _ _ _ _, by simp [Value.ownBlock]⟩)
  have WS := Lib.hid (WriteString_fresh w.heap.size w.heap.size ⟨#[49, 52, 52]⟩ w2 HB.out (by decide) B2.out.size)
  clear hb2 c0 c1
  go_wp2_with fail
  refine WS.out.mono ?_
  rintro e w3 ⟨rfl, hb3, hw3⟩
  have B3 := Lib.hid (B2.out.trans hw3)
  have HB3 := Lib.hid hb3
  have LN := Lib.hid (show Calls Tryz.prog 170 #[.pointer (some ⟨w.heap.size, 0, none⟩)] w3 fun e w' => e = .returned (.int .i64 3) ∧ w' = w3 from Tryz.Builder_Len w.heap.size w.heap.size _ w3 (Or.inr hb3))
  have ST := Lib.hid (show Calls Tryz.prog 171 #[.pointer (some ⟨w.heap.size, 0, none⟩)] w3 fun e w' => e = .returned (.string ⟨#[49, 52, 52]⟩) ∧ Below w.heap.size w3 w' from Tryz.Builder_String w.heap.size w.heap.size [49, 52, 52] w3 (Or.inr hb3) (by decide))
  clear hb3 hw3
  go_wp2_with fail
  rw [rounds_succ]
  go_wp2_with fail
  refine LN.out.mono ?_
  rintro e w' ⟨rfl, rfl⟩
  go_wp2_with fail
  refine ST.out.mono ?_
  rintro e w4 ⟨rfl, hb4⟩
  have B4 := Lib.hid (B3.out.trans hb4)
  clear hb4
  go_wp2_with fail
  go_ret2
  exact ⟨rfl, B4.out⟩
theorem one_of_pm {g p : Nat} (h : pm g p 64 (p - 1) = 1) (hp : p < Mg.R) : g ^ (p - 1) % p = 1 := by
  rw [← pm_eq g p 64 (p - 1) (by have : (2 : Nat) ^ 64 = Mg.R := by decide
                                 omega)]
  exact h
theorem fu_of {lo hi : Nat} {w : World} {gf p g : Nat} (h : FB lo hi w gf p g) (hg : g < Mg.R) (hb : 144 < p) (h1 : pm g p 64 (p - 1) = 1) : FU w gf p g :=
  ⟨h.fd, hg, hb, one_of_pm h1 (by have := h.fd.high; simp only [Mg.R]; omega)⟩
theorem cop_1 : Nat.gcd 469762049 754974721 = 1 := by decide +kernel
theorem cop_2 : Nat.gcd 167772161 (754974721 * 469762049 % 167772161) = 1 := by decide +kernel
theorem big_q : 0 < hi (754974721 * 469762049) 167772161 0 := by decide +kernel
/-- The trio of the three least known primes lies. -/
def TrK (w : World) (g : Nat) : Prop := ∃ a b c s t, Tr w g a b c 754974721 469762049 167772161 11 3 3 s t (754974721 * 469762049) (lo (754974721 * 469762049) 167772161 0) (hi (754974721 * 469762049) 167772161 0)
set_option maxRecDepth 100000 in
set_option maxHeartbeats 2000000 in
theorem trio_ok (w : World) : Calls Tryz.prog 63 #[] w fun e w' => ∃ g, e = .returned (.pointer (some ⟨g, 0, none⟩)) ∧ TrK w' g ∧ Below w.heap.size w w' := by
  have C1 := Lib.hid fun W => Known_3 W
  have C2 := Lib.hid fun W => Known_4 W
  have C3 := Lib.hid fun W => Known_5 W
  have NW := Lib.hid fun (a b c : Nat) (W : World) (ha : FU W a 754974721 11) (hb : FU W b 469762049 3) (hc : FU W c 167772161 3) => gNew_3 a b c 754974721 469762049 167772161 11 3 3 W ha.fd hb.fd hc.fd (by decide) (by decide) (by decide) cop_1 cop_2 (by decide)
  go_enter Tryz.func63, Tryz.ntmps63
  go_wp2_with fail
  refine (C1.out _).mono ?_
  rintro e w1 ⟨a, rfl, hf1, hb1⟩
  have F1 := Lib.hid (fu_of hf1 (by decide) (by decide) (by decide +kernel))
  have B1 := Lib.hid hb1
  clear hf1 hb1
  go_wp2_with fail
  refine (C2.out _).mono ?_
  rintro e w2 ⟨b, rfl, hf2, hb2⟩
  have F2 := Lib.hid (fu_of hf2 (by decide) (by decide) (by decide +kernel))
  have G1 := Lib.hid (F1.out.below hb2)
  have B2 := Lib.hid (below_then B1.out B1.out.size hb2)
  clear hf2 hb2
  go_wp2_with fail
  refine (C3.out _).mono ?_
  rintro e w3 ⟨c, rfl, hf3, hb3⟩
  have F3 := Lib.hid (fu_of hf3 (by decide) (by decide) (by decide +kernel))
  have H1 := Lib.hid (G1.out.below hb3)
  have H2 := Lib.hid (F2.out.below hb3)
  have B3 := Lib.hid (below_then B2.out B2.out.size hb3)
  clear hf3 hb3
  go_wp2_with fail
  refine (NW.out a b c w3 H1.out H2.out F3.out).mono ?_
  rintro e w4 ⟨g, s, t, rfl, hk4, hs4, ht4, hb4, _⟩
  have HT := Lib.hid (show TrK w4 g from ⟨a, b, c, s, t, H1.out.below hb4, H2.out.below hb4, F3.out.below hb4, hk4, hs4, ht4, by decide, big_q⟩)
  have B4 := Lib.hid (below_then B3.out B3.out.size hb4)
  clear hk4 hs4 ht4 hb4
  go_wp2_with fail
  go_ret
  exact ⟨g, rfl, HT.out, B4.out⟩
theorem TrK.below {w w1 : World} {g : Nat} (h : TrK w g) (k : Below w.heap.size w w1) : TrK w1 g := by
  obtain ⟨a, b, c, s, t, h⟩ := h
  exact ⟨a, b, c, s, t, h.below k⟩
set_option maxRecDepth 100000 in
set_option maxHeartbeats 2000000 in
theorem times_12 (g : Nat) (w : World) (h : TrK w g) (htab : ∀ W, Below w.heap.size w W → Lib.TabIs Tryz.prog W "internal/strconv.uint64pow10" .u64 Lib.pow10Tab) :
    Calls Tryz.prog 62 #[.pointer (some ⟨g, 0, none⟩), .string ⟨#[49, 50]⟩, .string ⟨#[49, 50]⟩] w fun e w' => e = .returned (.tuple #[.string ⟨#[49, 52, 52]⟩, .int .i64 0]) ∧ Below w.heap.size w w' := by
  have PA := Lib.hid fun W => parse_12 W
  have UN := Lib.hid fun (W : World) (k : Below w.heap.size w W) (x1 x2 c1 c2 : Nat) (h1 : RI .u64 W (some ⟨x1, 0, none⟩) [12]) (h2 : RI .u64 W (some ⟨x2, 0, none⟩) [12]) => (show Calls Tryz.prog 111 #[.pointer (some ⟨g, 0, none⟩), .slice (some ⟨x1, 0, none⟩) 1 c1, .slice (some ⟨x2, 0, none⟩) 1 c2] W (fun e w' => ∃ gj, e = .returned (.tuple #[.slice (some ⟨gj, 0, none⟩) 1 1, .int .i64 0]) ∧ Blk w' gj 252 #[.int .u64 144, .int .u64 0, .int .u64 0] ∧ Below W.heap.size W w') from by
    obtain ⟨a, b, c, s, t, hT⟩ := h.below k
    exact Unsigned_12 g a b c _ _ _ _ _ _ s t _ _ _ ⟨x1, 0, none⟩ ⟨x2, 0, none⟩ c1 c2 W hT h1 h2)
  have SH := Lib.hid fun (W : World) (k : Below w.heap.size w W) (x c : Nat) (hx : RI .u64 W (some ⟨x, 0, none⟩) [144]) => show_144 ⟨x, 0, none⟩ c W hx (htab W k)
  clear h htab
  go_enter Tryz.func62, Tryz.ntmps62
  go_wp2_with fail
  refine (PA.out _).mono ?_
  rintro e w1 ⟨g1, c1, rfl, h1⟩
  have O1 := Lib.hid h1
  clear h1
  go_wp2_with fail
  refine (PA.out _).mono ?_
  rintro e w2 ⟨g2, c2, rfl, h2⟩
  have O2 := Lib.hid h2
  have P1 := Lib.hid (O1.out.then h2.b)
  clear h2
  go_wp2_with fail
  refine (UN.out w2 P1.out.b g1 g2 c1 c2 P1.out.ri O2.out.ri).mono ?_
  rintro e w3 ⟨g3, rfl, hk3, hb3⟩
  have B3 := Lib.hid (below_then P1.out.b P1.out.b.size hb3)
  have CA := Lib.hid (carried_144 g3 1 w3 hk3)
  clear hk3 hb3
  go_wp2_with fail
  refine CA.out.mono ?_
  rintro e w4 ⟨g4, c4, rfl, h4⟩
  have O4 := Lib.hid h4
  have B4 := Lib.hid (below_then B3.out B3.out.size h4.b)
  clear h4
  go_wp2_with fail
  refine (SH.out w4 B4.out g4 c4 O4.out.ri).mono ?_
  rintro e w5 ⟨rfl, hb5⟩
  have B5 := Lib.hid (below_then B4.out B4.out.size hb5)
  clear hb5
  go_wp2_with fail
  go_ret2
  exact ⟨rfl, B5.out⟩
set_option maxRecDepth 100000 in
set_option maxHeartbeats 2000000 in
theorem Mul_12 (w : World) (htab : ∀ W, Below w.heap.size w W → Lib.TabIs Tryz.prog W "internal/strconv.uint64pow10" .u64 Lib.pow10Tab) :
    Calls Tryz.prog 28 #[.string ⟨#[49, 50]⟩, .string ⟨#[49, 50]⟩] w fun e w' => e = .returned (.tuple #[.string ⟨#[49, 52, 52]⟩, .int .i64 0]) ∧ Below w.heap.size w w' := by
  have GD := Lib.hid fun W => Good_12 W
  have TR := Lib.hid fun W => trio_ok W
  have TM := Lib.hid fun (W : World) (g : Nat) (k : Below w.heap.size w W) (h : TrK W g) => times_12 g W h (fun V hV => htab V (below_then k k.size hV))
  clear htab
  go_enter Tryz.func28, Tryz.ntmps28
  go_wp2_with fail
  refine (GD.out _).mono ?_
  rintro e w1 ⟨rfl, hb1⟩
  have B1 := Lib.hid hb1
  clear hb1
  go_wp2_with fail
  refine (GD.out _).mono ?_
  rintro e w2 ⟨rfl, hb2⟩
  have B2 := Lib.hid (below_then B1.out B1.out.size hb2)
  clear hb2
  go_wp2_with fail
  refine (TR.out _).mono ?_
  rintro e w3 ⟨g, rfl, ht, hb3⟩
  have B3 := Lib.hid (below_then B2.out B2.out.size hb3)
  have TT := Lib.hid (TM.out w3 g B3.out ht)
  clear ht hb3
  go_wp2_with fail
  refine TT.out.mono ?_
  rintro e w4 ⟨rfl, hb4⟩
  have B4 := Lib.hid (below_then B3.out B3.out.size hb4)
  clear hb4
  go_wp2_with fail
  go_ret2
  exact ⟨rfl, B4.out⟩
end Go.Proofs.YtpkpadepccneeaaGreatDoor
