/- The walks of the reference's Check and Of: the prime that a source is said to have; if there is one, the source's own row is right, or the source is one of the others. No condition. -/
import Derived.Test.YtpkpadepccneeaaGreatDoorL46
namespace Go.Proofs.YtpkpadepccneeaaGreatDoor
open Go.RowKit
set_option linter.unusedVariables false
set_option linter.unusedSimpArgs false
def CheckPost (l : List Ent) (w : World) (e : Ending) (w' : World) : Prop :=
  ∃ i z : Int, e = .returned (.tuple #[.int .i64 i, .int .i64 z]) ∧ (z = 0 → checkS l = (0, 0)) ∧ Below w.heap.size w w'
theorem CheckPost.no (l : List Ent) {i z : Int} (hz : z ≠ 0) {w w' : World} (h : Below w.heap.size w w') : CheckPost l w (.returned (.tuple #[.int .i64 i, .int .i64 z])) w' := ⟨i, z, rfl, fun e => absurd e hz, h⟩
theorem CheckPost.yes {l : List Ent} (hn : l.length ≤ 32) (hr : ∀ j, j < l.length → right (l.take j) (l.getD j .z) = true) {w w' : World} (h : Below w.heap.size w w') : CheckPost l w (.returned (.tuple #[.int .i64 0, .int .i64 0])) w' :=
  ⟨0, 0, rfl, fun _ => by
    unfold checkS
    rw [if_neg (by omega), firstBad_none l hr _ 0 rfl], h⟩
set_option maxHeartbeats 1000000 in
theorem rCheck_any (A : Option Addr) (c : Nat) (l : List Ent) (w : World) (hl : EI w A l) (h40 : l.length ≤ 1000) (hc1 : l.length ≤ c) (hc2 : c ≤ maxLen) (ho : Oks l) :
    Calls Tryz.prog 69 #[.slice A l.length c] w fun e w' => CheckPost l w e w' := by
  have CR := Lib.hid fun (W : World) (i : Nat) (hi : i < l.length) (hb : Below w.heap.size w W) => rRight_any A c i l W (hl.below hb) h40 hi hc1 hc2 ho
  clear hl ho hc2
  by_cases h32 : 32 < l.length
  · have g0 : decide ((32 : Int) < (l.length : Int)) = true := decide_eq_true (by omega)
    have g0' : decide (32 < l.length) = true := decide_eq_true h32
    have HN := Lib.hid (CheckPost.no l (i := 0) (z := 13) (by decide) (Below.refl w.heap.size w))
    clear h32
    go_enter Tryz.func69, Tryz.ntmps69
    go_wp2_with fail
    go_ret2
    exact HN.out
  have g0 : decide ((32 : Int) < (l.length : Int)) = false := decide_eq_false (by omega)
  have g0' : decide (32 < l.length) = false := decide_eq_false h32
  have HNO := Lib.hid fun (i : Nat) (w' : World) (hb : Below w.heap.size w w') => CheckPost.no l (i := (i : Int)) (z := 3) (by decide) hb
  have HYES := Lib.hid fun (w' : World) hr (hb : Below w.heap.size w w') => CheckPost.yes (l := l) (by omega) hr hb
  have N0 := Lib.hid (show ∀ j, j < 0 → right (l.take j) (l.getD j .z) = true from fun j hj => by omega)
  clear h32
  go_enter Tryz.func69, Tryz.ntmps69
  go_wp2_with fail
  go_loopw [10] (fun iv wr => ∃ k : Nat, iv = .int .i64 k ∧ k ≤ l.length ∧ Hid (∀ j, j < k → right (l.take j) (l.getD j .z) = true) ∧ Hid (Below w.heap.size w wr)) (fun iv _ => l.length - (intOf iv).toNat)
  case atStart => exact ⟨0, rfl, by omega, N0, Lib.hid (Below.refl _ _)⟩
  case round =>
    clear N0
    obtain ⟨k, rfl, hk, HN, HB⟩ := hrel
    by_cases hlt : k < l.length
    · have C := Lib.hid (CR.out wr k hlt HB.out)
      have HS := Lib.hid (show right (l.take k) (l.getD k .z) = true → ∀ j, j < k + 1 → right (l.take j) (l.getD j .z) = true from fun h j hj => by
        by_cases e : j = k
        · subst e; exact h
        · exact HN.out j (by omega))
      go_wp2_with fail
      with_reducible refine (C.out).mono ?_
      rintro e w1 ⟨b, rfl, hb, hb1⟩
      have HB1 := Lib.hid (below_then HB.out HB.out.size hb1)
      have HBB := Lib.hid hb
      clear hb hb1
      cases b with
      | false =>
        go_wp2_with fail
        go_ret2
        exact HNO.out k _ HB1.out
      | true =>
        have HN2 := Lib.hid (HS.out (HBB.out rfl))
        go_wp2_with fail
        go_roundw
        case rel => exact ⟨k + 1, by go_num, by omega, HN2, HB1⟩
        case measure => simp [intOf]; omega
    · have hkk : k = l.length := by omega
      subst hkk
      have HY := Lib.hid (HYES.out wr HN.out HB.out)
      go_wp2_with fail
      go_ret2
      exact HY.out
/-- The known primes. -/
def knownP : Nat → Nat
  | 0 => 4179340454199820289 | 1 => 1945555039024054273 | 2 => 180143985094819841 | 3 => 754974721 | 4 => 469762049 | _ => 167772161
/-- What the prime, if there is one, tells of the source. -/
def OfSays (kind k : Int) (P : Nat) (l : List Ent) (p : Nat) : Prop :=
  p = 0 ∨ (kind = 0 ∧ oddP P = true ∧ p = P) ∨ (kind = 1 ∧ 0 ≤ k ∧ k ≤ 5 ∧ p = knownP k.toNat) ∨ (kind ≠ 0 ∧ kind ≠ 1 ∧ l.length ≤ 40 ∧ checkS l = (0, 0) ∧ p = P ∧ ∃ j : Nat, indexOf l P 0 = (j : Int))
def OfPost (kind k : Int) (P : Nat) (l : List Ent) (w : World) (e : Ending) (w' : World) : Prop :=
  ∃ (p g : Nat) (z : Int), e = .returned (.tuple #[.int .u64 p, .int .u64 g, .int .i64 z]) ∧ OfSays kind k P l p ∧ Below w.heap.size w w'
theorem OfPost.no (kind k : Int) (P : Nat) (l : List Ent) (z : Int) {w w' : World} (h : Below w.heap.size w w') : OfPost kind k P l w (.returned (.tuple #[.int .u64 0, .int .u64 0, .int .i64 z])) w' := ⟨0, 0, z, rfl, .inl rfl, h⟩
theorem OfPost.is (kind k : Int) (P : Nat) (l : List Ent) (p g : Nat) (hs : OfSays kind k P l p) {w w' : World} (h : Below w.heap.size w w') : OfPost kind k P l w (.returned (.tuple #[.int .u64 p, .int .u64 g, .int .i64 0])) w' := ⟨p, g, 0, rfl, hs, h⟩
theorem oddP_iff {p : Nat} : oddP p = true ↔ (Nt.Prime p ∧ 2 < p ∧ p ≤ 65536) := by
  unfold oddP
  rw [Bool.and_eq_true, Bool.and_eq_true, decide_eq_true_iff, decide_eq_true_iff, primeB_iff]
  exact ⟨fun ⟨⟨a, b⟩, c⟩ => ⟨c, a, b⟩, fun ⟨c, a, b⟩ => ⟨⟨a, b⟩, c⟩⟩
set_option maxHeartbeats 1000000 in
theorem Of_small (k : Int) (P : Nat) (A : Option Addr) (l : List Ent) (c : Nat) (w : World) : Calls Tryz.prog 32 #[.agg #[.int .i64 0, .int .i64 k, .int .u64 P, .slice A l.length c]] w fun e w' => OfPost 0 k P l w e w' := by
  have CO := Lib.hid fun W => rOdd_any P W
  have HB0 := Lib.hid ((Below.refl w.heap.size w).alloc (Nat.le_refl _) (.cells #[.int .i64 0, .int .i64 k, .int .u64 P, .slice A l.length c] 25))
  have HNO := Lib.hid fun (w' : World) (hb : Below w.heap.size w w') => OfPost.no 0 k P l 1 hb
  have HIS := Lib.hid fun (g : Nat) (h : oddP P = true) (w' : World) (hb : Below w.heap.size w w') => OfPost.is 0 k P l P g (.inr (.inl ⟨rfl, h, rfl⟩)) hb
  have K0 := Lib.hid (Blk.new w 25 #[.int .i64 0, .int .i64 k, .int .u64 P, .slice A l.length c])
  cases ho : oddP P with
  | false =>
    rw [ho] at CO
    clear ho HIS
    generalize l.length = n at *
    go_enter Tryz.func32, Tryz.ntmps32
    go_wp2_with fail
    with_reducible refine ((CO.out _)).mono ?_
    rintro e w1 ⟨rfl, hw⟩
    subst hw
    go_wp2_with fail
    go_ret3
    exact HNO.out _ HB0.out
  | true =>
    obtain ⟨hp, h2, hb⟩ := oddP_iff.1 ho
    have CG := Lib.hid fun W => rGen_any P ho hp h2 hb W
    have HI := Lib.hid fun (g : Nat) => HIS.out g ho
    rw [ho] at CO
    clear ho hp h2 hb HIS HNO
    generalize l.length = n at *
    go_enter Tryz.func32, Tryz.ntmps32
    go_wp2_with fail
    with_reducible refine ((CO.out _)).mono ?_
    rintro e w1 ⟨rfl, hw⟩
    subst hw
    go_wp2_with fail
    generalize w.alloc (.cells #[.int .i64 0, .int .i64 k, .int .u64 P, .slice A n c] 25) = V at *
    have x2 := K0.out.cell 2
    have hS : V.cell? ⟨w.heap.size, 2, none⟩ = some (.int .u64 P) := x2
    go_region_held3 (fun W' => W'.cell? ⟨w.heap.size, 2, none⟩ = some (.int .u64 P)) (first | exact hS | go_keep)
      (first | (go_at_call 68; refine (CG.out _).mono ?_; rintro e_ w_ ⟨⟨g, rfl⟩, hw⟩; subst hw))
    go_wp2_with fail
    go_ret3
    exact HI.out _ _ (below_drewN HB0.out _)
set_option maxRecDepth 100000 in
set_option maxHeartbeats 4000000 in
theorem Of_known (k : Int) (P : Nat) (A : Option Addr) (l : List Ent) (c : Nat) (w : World) : Calls Tryz.prog 32 #[.agg #[.int .i64 1, .int .i64 k, .int .u64 P, .slice A l.length c]] w fun e w' => OfPost 1 k P l w e w' := by
  have HB0 := Lib.hid ((Below.refl w.heap.size w).alloc (Nat.le_refl _) (.cells #[.int .i64 1, .int .i64 k, .int .u64 P, .slice A l.length c] 25))
  have HNO := Lib.hid fun (w' : World) (hb : Below w.heap.size w w') => OfPost.no 1 k P l 1 hb
  have HIS := Lib.hid fun (p g : Nat) (h : 0 ≤ k ∧ k ≤ 5 ∧ p = knownP k.toNat) (w' : World) (hb : Below w.heap.size w w') => OfPost.is 1 k P l p g (.inr (.inr (.inl ⟨rfl, h.1, h.2.1, h.2.2⟩))) hb
  generalize l.length = n at *
  by_cases h0 : k < 0
  · have g0 : decide (k < 0) = true := decide_eq_true h0
    clear HIS h0
    go_enter Tryz.func32, Tryz.ntmps32
    go_wp2_with fail
    go_ret3
    exact HNO.out _ HB0.out
  have g0 : decide (k < 0) = false := decide_eq_false h0
  by_cases h5 : 5 < k
  · have g1 : decide (5 < k) = true := decide_eq_true h5
    clear HIS h0 h5
    go_enter Tryz.func32, Tryz.ntmps32
    go_wp2_with fail
    go_ret3
    exact HNO.out _ HB0.out
  clear g0
  have K0 := Lib.hid (Blk.new w 25 #[.int .i64 1, .int .i64 k, .int .u64 P, .slice A n c])
  have KA := Lib.hid fun (W : World) => Blk.new W 152 #[.int .u64 4179340454199820289, .int .u64 1945555039024054273, .int .u64 180143985094819841, .int .u64 754974721, .int .u64 469762049, .int .u64 167772161]
  have KG := Lib.hid fun (W : World) => Blk.new W 152 #[.int .u64 3, .int .u64 5, .int .u64 6, .int .u64 11, .int .u64 3, .int .u64 3]
  have hk : k = 0 ∨ k = 1 ∨ k = 2 ∨ k = 3 ∨ k = 4 ∨ k = 5 := by omega
  clear h0 h5 HNO
  rcases hk with rfl | rfl | rfl | rfl | rfl | rfl
  all_goals (
    go_enter Tryz.func32, Tryz.ntmps32
    go_wp2_with fail
    go_quiet (fail)
    go_wp2_with fail
    go_ret3
    first
    | refine HIS.out 4179340454199820289 3 ⟨by decide, by decide, rfl⟩ _ ?_
    | refine HIS.out 1945555039024054273 5 ⟨by decide, by decide, rfl⟩ _ ?_
    | refine HIS.out 180143985094819841 6 ⟨by decide, by decide, rfl⟩ _ ?_
    | refine HIS.out 754974721 11 ⟨by decide, by decide, rfl⟩ _ ?_
    | refine HIS.out 469762049 3 ⟨by decide, by decide, rfl⟩ _ ?_
    | refine HIS.out 167772161 3 ⟨by decide, by decide, rfl⟩ _ ?_
    repeat (first | exact HB0.out | refine below_drewN ?_ _ | refine Below.alloc ?_ (by simp <;> omega) _ | refine Below.drew ?_))
set_option maxRecDepth 100000 in
set_option maxHeartbeats 4000000 in
theorem Of_list (kind k : Int) (P : Nat) (A : Option Addr) (l : List Ent) (c : Nat) (w : World) (hk0 : kind ≠ 0) (hk1 : kind ≠ 1) (hl : EI w A l) (hc1 : l.length ≤ c) (hc2 : c ≤ maxLen) (ho : Oks l) :
    Calls Tryz.prog 32 #[.agg #[.int .i64 kind, .int .i64 k, .int .u64 P, .slice A l.length c]] w fun e w' => OfPost kind k P l w e w' := by
  have hc3 : c ≤ 9223372036854775807 := hc2
  have HB0 := Lib.hid ((Below.refl w.heap.size w).alloc (Nat.le_refl _) (.cells #[.int .i64 kind, .int .i64 k, .int .u64 P, .slice A l.length c] 25))
  have K0 := Lib.hid (Blk.new w 25 #[.int .i64 kind, .int .i64 k, .int .u64 P, .slice A l.length c])
  have HNO := Lib.hid fun (z : Int) (w' : World) (hb : Below w.heap.size w w') => OfPost.no kind k P l z hb
  have g0 : (kind == 0) = false := beq_eq_false_iff_ne.2 hk0
  have g1 : (kind == 1) = false := beq_eq_false_iff_ne.2 hk1
  by_cases h40 : 40 < l.length
  · have q0 : decide ((40 : Int) < (l.length : Int)) = true := decide_eq_true (by omega)
    have q0' : decide (40 < l.length) = true := decide_eq_true h40
    clear h40 hl hk0 hk1 ho hc1 hc2
    generalize l.length = n at *
    go_enter Tryz.func32, Tryz.ntmps32
    go_wp2_with fail
    go_ret3
    exact HNO.out _ _ HB0.out
  have q0 : decide ((40 : Int) < (l.length : Int)) = false := decide_eq_false (by omega)
  have q0' : decide (40 < l.length) = false := decide_eq_false h40
  have HIS := Lib.hid fun (g : Nat) (hck : checkS l = (0, 0)) (h : ∃ j, j < l.length ∧ (l.getD j .z).p = P) (w' : World) (hb : Below w.heap.size w w') =>
    OfPost.is kind k P l P g (.inr (.inr (.inr ⟨hk0, hk1, by omega, hck, rfl, by
      obtain ⟨j, hj, he⟩ := h
      have := (indexOf_nonneg l P 0).2 ⟨j, Nat.zero_le _, hj, he⟩
      exact ⟨(indexOf l P 0).toNat, by omega⟩⟩))) hb
  have CK := Lib.hid fun (W : World) (hb : Below w.heap.size w W) => rCheck_any A c l W (hl.below hb) (by omega) hc1 hc2 ho
  have HL := Lib.hid hl
  have hln : l.length ≤ 40 := by omega
  have HN := Lib.hid ho.n
  clear h40 hl hk0 hk1 ho hc1 hc2
  go_enter Tryz.func32, Tryz.ntmps32
  go_wp2_with fail
  go_loopw [53] (fun iv wr => ∃ i : Nat, iv = .int .i64 i ∧ i ≤ l.length ∧ Hid (Below w.heap.size w wr) ∧ Hid (Blk wr w.heap.size 25 #[.int .i64 kind, .int .i64 k, .int .u64 P, .slice A l.length c])) (fun iv _ => l.length - (intOf iv).toNat)
  case atStart => exact ⟨0, rfl, by omega, HB0, K0⟩
  case round =>
    clear HB0 K0
    obtain ⟨i, rfl, hi, HB, HK⟩ := hrel
    by_cases hlt : i < l.length
    · obtain ⟨b, o, F, cf, rfl, c1, c2, c3, hfl, hf⟩ := HL.out i hlt
      have k1 := bcell HB.out c1
      have k2 := bcell HB.out c2
      have k3 := bcell HB.out c3
      have hnm := HN.out i hlt
      have HB1 := Lib.hid (below_then HB.out HB.out.size ((Below.refl wr.heap.size wr).alloc (Nat.le_refl _) (.cells #[.int .u64 (l.getD i .z).p, .int .u64 (l.getD i .z).g, .slice F (l.getD i .z).fs.length cf] 65)))
      have HK1 := Lib.hid (HK.out.alloc (.cells #[.int .u64 (l.getD i .z).p, .int .u64 (l.getD i .z).g, .slice F (l.getD i .z).fs.length cf] 65))
      have hi0 : (0 : Int) ≤ (i : Int) := by omega
      have hi1 : (i : Int) < (l.length : Int) := by omega
      clear c1 c2 c3 hfl hf
      generalize (l.getD i .z).fs.length = nf at *
      generalize (l.getD i .z).g = g at *
      generalize (l.getD i .z).p = p at *
      by_cases h20 : 20 < nf
      · have q1 : decide ((20 : Int) < (nf : Int)) = true := decide_eq_true (by omega)
        have q1' : decide (20 < nf) = true := decide_eq_true h20
        clear h20
        go_wp2_with fail
        go_ret3
        exact HNO.out _ _ HB1.out
      · have q1 : decide ((20 : Int) < (nf : Int)) = false := decide_eq_false (by omega)
        have q1' : decide (20 < nf) = false := decide_eq_false h20
        clear h20
        go_wp2_with fail
        go_roundw
        case rel => exact ⟨i + 1, by go_num, by omega, HB1, HK1⟩
        case measure => simp [intOf]; omega
    · have hii : i = l.length := by omega
      have HII := Lib.hid hii
      have x3 := HK.out.cell 3
      have hd0 : decide ((i : Int) < (l.length : Int)) = false := decide_eq_false (by omega)
      clear hlt
      have C := Lib.hid (CK.out wr HB.out)
      go_wp2_with fail
      with_reducible refine (C.out).mono ?_
      rintro e w2 ⟨z0, z, rfl, hz, hb2⟩
      have B2 := Lib.hid (below_then HB.out HB.out.size hb2)
      have K2 := Lib.hid (HK.out.below hb2 HK.out.lt)
      have HZ := Lib.hid hz
      clear hb2 hz x3
      by_cases hz0 : z = 0
      rotate_left
      · have q2 : (z != 0) = true := bne_iff_ne.2 hz0
        have q2' : (z == 0) = false := beq_eq_false_iff_ne.2 hz0
        clear hz0
        go_wp2_with fail
        go_ret3
        exact HNO.out _ _ B2.out
      subst hz0
      have HCK := Lib.hid (HZ.out rfl)
      have y3 := K2.out.cell 3
      go_wp2_with fail
      go_loopw [74] (fun iv wr => ∃ i : Nat, iv = .int .i64 i ∧ i ≤ l.length ∧ Hid (Below w.heap.size w wr) ∧ Hid (Blk wr w.heap.size 25 #[.int .i64 kind, .int .i64 k, .int .u64 P, .slice A l.length c])) (fun iv _ => l.length - (intOf iv).toNat)
      case atStart => exact ⟨0, rfl, by omega, B2, K2⟩
      case round =>
        clear B2 K2 y3 hii
        obtain ⟨i, rfl, hi, HB, HK⟩ := hrel
        by_cases hlt : i < l.length
        · obtain ⟨b, o, F, cf, rfl, c1, c2, c3, hfl, hf⟩ := HL.out i hlt
          have k1 := bcell HB.out c1
          have k2 := bcell HB.out c2
          have k3 := bcell HB.out c3
          have HB1 := Lib.hid (below_then HB.out HB.out.size ((Below.refl wr.heap.size wr).alloc (Nat.le_refl _) (.cells #[.int .u64 (l.getD i .z).p, .int .u64 (l.getD i .z).g, .slice F (l.getD i .z).fs.length cf] 65)))
          have HK1 := Lib.hid (HK.out.alloc (.cells #[.int .u64 (l.getD i .z).p, .int .u64 (l.getD i .z).g, .slice F (l.getD i .z).fs.length cf] 65))
          have HJ1 := Lib.hid (Blk.new wr 65 #[.int .u64 (l.getD i .z).p, .int .u64 (l.getD i .z).g, .slice F (l.getD i .z).fs.length cf])
          have HFD := Lib.hid fun (g : Nat) (h : (l.getD i .z).p = P) (w' : World) (hb : Below w.heap.size w w') => HIS.out g HCK.out ⟨i, hlt, h⟩ w' hb
          have hi0 : (0 : Int) ≤ (i : Int) := by omega
          have hi1 : (i : Int) < (l.length : Int) := by omega
          clear c1 c2 c3 hfl hf
          generalize (l.getD i .z).fs.length = nf at *
          generalize (l.getD i .z).g = g at *
          generalize (l.getD i .z).p = p at *
          by_cases hpq : p = P
          · subst hpq
            have HF2 := Lib.hid fun (w' : World) (hb : Below w.heap.size w w') => HFD.out g rfl w' hb
            clear HFD
            go_upto_region 26 with fail
            generalize wr.alloc (.cells #[.int .u64 p, .int .u64 g, .slice F nf cf] 65) = W1 at *
            generalize wr.heap.size = b5 at *
            have x2 := HK1.out.cell 2
            have j0 := HJ1.out.cell 0
            have j1 := HJ1.out.cell 1
            go_wp2_with fail
            go_quiet (fail)
            go_wp2_with fail
            go_ret3
            exact HF2.out _ (below_drewN HB1.out _)
          · have g5 : ((p : Int) == (P : Int)) = false := beq_eq_false_iff_ne.2 (by omega)
            have g5' : (p == P) = false := beq_eq_false_iff_ne.2 hpq
            clear hpq HFD
            go_upto_region 26 with fail
            generalize wr.alloc (.cells #[.int .u64 p, .int .u64 g, .slice F nf cf] 65) = W1 at *
            generalize wr.heap.size = b5 at *
            have x2 := HK1.out.cell 2
            have j0 := HJ1.out.cell 0
            go_wp2_with fail
            go_roundw
            case rel => exact ⟨i + 1, by go_num, by omega, HB1, HK1⟩
            case measure => simp [intOf]; omega
        · have hd1 : decide ((i : Int) < (l.length : Int)) = false := decide_eq_false (by omega)
          go_wp2_with fail
          go_ret3
          exact HNO.out _ _ HB.out
end Go.Proofs.YtpkpadepccneeaaGreatDoor
