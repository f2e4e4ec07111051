/- The walk of the law's made: a source's field, by the program, and its prime, by the reference; the field is of that prime. No condition. -/
import Derived.Test.YtpkpadepccneeaaGreatDoorL47
import Derived.Test.YtpkpadepccneeaaGreatDoorL45
import Derived.Test.YtpkpadepccneeaaGreatDoorL37
namespace Go.Proofs.YtpkpadepccneeaaGreatDoor
open Go.RowKit
set_option linter.unusedVariables false
set_option linter.unusedSimpArgs false
def NewPost (l : List Ent) (q : Nat) (w : World) (e : Ending) (w' : World) : Prop :=
  ∃ (fv : Value) (z : Int), e = .returned (.tuple #[fv, .int .i64 z]) ∧ (checkS l = (0, 0) → (∃ j : Nat, indexOf l q 0 = (j : Int)) → ∃ gf g, fv = .pointer (some ⟨gf, 0, none⟩) ∧ FG w' gf q g) ∧ Below w.heap.size w w'
theorem indexOf_or (l : List Ent) (q : Nat) : indexOf l q 0 = -1 ∨ ∃ j : Nat, indexOf l q 0 = (j : Int) := by
  have key : ∀ (n i : Nat), l.length - i = n → indexOf l q i = -1 ∨ ∃ j : Nat, indexOf l q i = (j : Int) := by
    intro n
    induction n with
    | zero => intro i hi; exact .inl (indexOf_end l q i (by omega))
    | succ n ih =>
      intro i hi
      rw [indexOf_at l q i (by omega)]
      split
      · exact .inr ⟨i, rfl⟩
      · exact ih (i + 1) (by omega)
  exact key _ 0 rfl
theorem New_any (A : Option Addr) (cA : Nat) (l : List Ent) (q : Nat) (w : World) (hl : EI w A l) (hcA : l.length ≤ cA) (hm : l.length ≤ 1000) (hcm : cA ≤ maxLen) (ho : Oks l) (hq : q < Mg.R) :
    Calls Tryz.prog 22 #[.slice A l.length cA, .int .u64 q] w fun e w' => NewPost l q w e w' := by
  by_cases hz : (checkS l).2 = 0
  · have hck : checkS l = (0, 0) := by
      unfold checkS at hz ⊢
      split at hz
      · cases hz
      · rename_i h
        rw [if_neg h]
        cases hf : firstBad l 0 with
        | none => rfl
        | some i => rw [hf] at hz; cases hz
    rcases indexOf_or l q with hi | ⟨j, hj⟩
    · exact (New_none A cA l q w hl hcA hcm ho hck hi hq).mono fun e w' ⟨he, hb⟩ => ⟨_, _, he, fun _ ⟨j, hj⟩ => by omega, hb⟩
    · exact (New_yes A cA l q j w hl hcA hcm ho hck hj).mono fun e w' ⟨gf, g, he, hf, hb⟩ => ⟨_, _, he, fun _ _ => ⟨gf, g, rfl, hf⟩, hb⟩
  · exact (New_bad A cA l q w hl hcA (by omega) hcm ho hz).mono fun e w' ⟨he, hb⟩ => ⟨_, _, he, fun hck => absurd (by rw [hck]) hz, hb⟩
/-- A known prime's field. -/
theorem Known_yes (k : Int) (h0 : 0 ≤ k) (h5 : k ≤ 5) (w : World) : Calls Tryz.prog 34 #[.int .i64 k] w fun e w' => ∃ gf g, e = .returned (.tuple #[.pointer (some ⟨gf, 0, none⟩), .int .i64 0]) ∧ FG w' gf (knownP k.toNat) g ∧ Below w.heap.size w w' := by
  have hk : k = 0 ∨ k = 1 ∨ k = 2 ∨ k = 3 ∨ k = 4 ∨ k = 5 := by omega
  rcases hk with rfl | rfl | rfl | rfl | rfl | rfl
  · have es := row_right known0 (checkS_none check_known0).1 3 (by decide)
    exact (Known_0 w).mono fun e w' ⟨gf, he, hf, hb⟩ => ⟨gf, _, he, ⟨hf.fd, es.prime, es.order, es.gp⟩, hb⟩
  · have es := row_right known1 (checkS_none check_known1).1 1 (by decide)
    exact (Known_1 w).mono fun e w' ⟨gf, he, hf, hb⟩ => ⟨gf, _, he, ⟨hf.fd, es.prime, es.order, es.gp⟩, hb⟩
  · have es := row_right known2 (checkS_none check_known2).1 1 (by decide)
    exact (Known_2 w).mono fun e w' ⟨gf, he, hf, hb⟩ => ⟨gf, _, he, ⟨hf.fd, es.prime, es.order, es.gp⟩, hb⟩
  · have es := row_right known3 (checkS_none check_known3).1 2 (by decide)
    exact (Known_3 w).mono fun e w' ⟨gf, he, hf, hb⟩ => ⟨gf, _, he, ⟨hf.fd, es.prime, es.order, es.gp⟩, hb⟩
  · have es := row_right known4 (checkS_none check_known4).1 2 (by decide)
    exact (Known_4 w).mono fun e w' ⟨gf, he, hf, hb⟩ => ⟨gf, _, he, ⟨hf.fd, es.prime, es.order, es.gp⟩, hb⟩
  · have es := row_right known5 (checkS_none check_known5).1 1 (by decide)
    exact (Known_5 w).mono fun e w' ⟨gf, he, hf, hb⟩ => ⟨gf, _, he, ⟨hf.fd, es.prime, es.order, es.gp⟩, hb⟩
/-- What made answers. -/
def MadePost (w : World) (e : Ending) (w' : World) : Prop :=
  ∃ (fv : Value) (p g : Nat), e = .returned (.tuple #[fv, .int .u64 p, .int .u64 g]) ∧ (p = 0 ∨ ∃ gf G, fv = .pointer (some ⟨gf, 0, none⟩) ∧ FG w' gf p G) ∧ Below w.heap.size w w'
theorem MadePost.mk (w : World) (fv : Value) (p g : Nat) {w' : World} (h : p = 0 ∨ ∃ gf G, fv = .pointer (some ⟨gf, 0, none⟩) ∧ FG w' gf p G) (hb : Below w.heap.size w w') : MadePost w (.returned (.tuple #[fv, .int .u64 p, .int .u64 g])) w' := ⟨fv, p, g, rfl, h, hb⟩
set_option maxHeartbeats 1000000 in
theorem made_small (k : Int) (P : Nat) (A : Option Addr) (l : List Ent) (c : Nat) (w : World) : Calls Tryz.prog 9 #[.agg #[.int .i64 0, .int .i64 k, .int .u64 P, .slice A l.length c]] w fun e w' => MadePost w e w' := by
  have CO := Lib.hid fun W => Of_small k P A l c W
  have HB0 := Lib.hid ((Below.refl w.heap.size w).alloc (Nat.le_refl _) (.cells #[.int .i64 0, .int .i64 k, .int .u64 P, .slice A l.length c] 25))
  have K0 := Lib.hid (Blk.new w 25 #[.int .i64 0, .int .i64 k, .int .u64 P, .slice A l.length c])
  have HS := Lib.hid (show ∀ p, OfSays 0 k P l p → p = 0 ∨ (oddP P = true ∧ p = P) from fun p h => by
    rcases h with h | h | h | h
    · exact .inl h
    · exact .inr ⟨h.2.1, h.2.2⟩
    · exact absurd h.1 (by decide)
    · exact absurd rfl h.1)
  have C1 := Lib.hid fun W (h : oddP P = true) => (show Calls Tryz.prog 33 #[.int .u64 P] W fun e w' => ∃ gf g, e = .returned (.tuple #[.pointer (some ⟨gf, 0, none⟩), .int .i64 0]) ∧ FG w' gf P g ∧ Below W.heap.size W w' from by
    obtain ⟨hp, h2, hb⟩ := oddP_iff.1 h
    exact Small_any P hp h2 hb W)
  have C2 := Lib.hid fun W (h : oddP P = false) => Small_bad P h W
  have HMK := Lib.hid (MadePost.mk w)
  cases ho : oddP P with
  | false =>
    have C3 := Lib.hid fun W => C2.out W ho
    have HS2 := Lib.hid (show ∀ p, OfSays 0 k P l p → p = 0 from fun p h => by
      rcases HS.out p h with h | h
      · exact h
      · rw [ho] at h; exact absurd h.1 (by decide))
    clear ho C1 C2 HS
    go_enter Tryz.func9, Tryz.ntmps9
    go_wp2_with fail
    with_reducible refine ((CO.out _)).mono ?_
    rintro e w1 ⟨p, g, z, rfl, hs, hb1⟩
    have B1 := Lib.hid (below_then HB0.out HB0.out.size hb1)
    have K1 := Lib.hid (K0.out.below hb1 K0.out.lt)
    have HP := Lib.hid (HS2.out p hs)
    clear hb1 hs HB0 K0 CO
    have x0 := K1.out.cell 0
    have x2 := K1.out.cell 2
    go_wp2_with fail
    with_reducible refine ((C3.out _)).mono ?_
    rintro e w2 ⟨rfl, hb2⟩
    have B2 := Lib.hid (below_then B1.out B1.out.size hb2)
    clear hb2
    go_wp2_with fail
    go_ret3
    exact HMK.out _ p g (.inl HP.out) B2.out
  | true =>
    have C3 := Lib.hid fun W => C1.out W ho
    have HS2 := Lib.hid (show ∀ p, OfSays 0 k P l p → p = 0 ∨ p = P from fun p h => by
      rcases HS.out p h with h | h
      · exact .inl h
      · exact .inr h.2)
    clear ho C1 C2 HS
    go_enter Tryz.func9, Tryz.ntmps9
    go_wp2_with fail
    with_reducible refine ((CO.out _)).mono ?_
    rintro e w1 ⟨p, g, z, rfl, hs, hb1⟩
    have B1 := Lib.hid (below_then HB0.out HB0.out.size hb1)
    have K1 := Lib.hid (K0.out.below hb1 K0.out.lt)
    have HP := Lib.hid (HS2.out p hs)
    clear hb1 hs HB0 K0 CO
    have x0 := K1.out.cell 0
    have x2 := K1.out.cell 2
    go_wp2_with fail
    with_reducible refine ((C3.out _)).mono ?_
    rintro e w2 ⟨gf, G, rfl, hf, hb2⟩
    have B2 := Lib.hid (below_then B1.out B1.out.size hb2)
    have HF := Lib.hid hf
    clear hb2 hf
    go_wp2_with fail
    go_ret3
    exact HMK.out _ p g (by
      rcases HP.out with h | h
      · exact .inl h
      · exact .inr ⟨gf, G, rfl, by rw [h]; exact HF.out⟩) B2.out
set_option maxHeartbeats 1000000 in
theorem made_known (k : Int) (P : Nat) (A : Option Addr) (l : List Ent) (c : Nat) (w : World) : Calls Tryz.prog 9 #[.agg #[.int .i64 1, .int .i64 k, .int .u64 P, .slice A l.length c]] w fun e w' => MadePost w e w' := by
  have CO := Lib.hid fun W => Of_known k P A l c W
  have HB0 := Lib.hid ((Below.refl w.heap.size w).alloc (Nat.le_refl _) (.cells #[.int .i64 1, .int .i64 k, .int .u64 P, .slice A l.length c] 25))
  have K0 := Lib.hid (Blk.new w 25 #[.int .i64 1, .int .i64 k, .int .u64 P, .slice A l.length c])
  have HS := Lib.hid (show ∀ p, OfSays 1 k P l p → p = 0 ∨ (0 ≤ k ∧ k ≤ 5 ∧ p = knownP k.toNat) from fun p h => by
    rcases h with h | h | h | h
    · exact .inl h
    · exact absurd h.1 (by decide)
    · exact .inr h.2
    · exact absurd rfl h.2.1)
  have HMK := Lib.hid (MadePost.mk w)
  by_cases hk : 0 ≤ k ∧ k ≤ 5
  · have C3 := Lib.hid fun W => Known_yes k hk.1 hk.2 W
    have HS2 := Lib.hid (show ∀ p, OfSays 1 k P l p → p = 0 ∨ p = knownP k.toNat from fun p h => by
      rcases HS.out p h with h | h
      · exact .inl h
      · exact .inr h.2.2)
    clear hk HS
    generalize knownP k.toNat = kp at *
    go_enter Tryz.func9, Tryz.ntmps9
    go_wp2_with fail
    with_reducible refine ((CO.out _)).mono ?_
    rintro e w1 ⟨p, g, z, rfl, hs, hb1⟩
    have B1 := Lib.hid (below_then HB0.out HB0.out.size hb1)
    have K1 := Lib.hid (K0.out.below hb1 K0.out.lt)
    have HP := Lib.hid (HS2.out p hs)
    clear hb1 hs HB0 K0 CO
    have x0 := K1.out.cell 0
    have x1 := K1.out.cell 1
    go_wp2_with fail
    with_reducible refine ((C3.out _)).mono ?_
    rintro e w2 ⟨gf, G, rfl, hf, hb2⟩
    have B2 := Lib.hid (below_then B1.out B1.out.size hb2)
    have HF := Lib.hid hf
    clear hb2 hf
    go_wp2_with fail
    go_ret3
    exact HMK.out _ p g (by
      rcases HP.out with h | h
      · exact .inl h
      · exact .inr ⟨gf, G, rfl, by rw [h]; exact HF.out⟩) B2.out
  · have C3 := Lib.hid fun W => Known_bad k (by omega) W
    have HS2 := Lib.hid (show ∀ p, OfSays 1 k P l p → p = 0 from fun p h => by
      rcases HS.out p h with h | h
      · exact h
      · exact absurd ⟨h.1, h.2.1⟩ hk)
    clear hk HS
    go_enter Tryz.func9, Tryz.ntmps9
    go_wp2_with fail
    with_reducible refine ((CO.out _)).mono ?_
    rintro e w1 ⟨p, g, z, rfl, hs, hb1⟩
    have B1 := Lib.hid (below_then HB0.out HB0.out.size hb1)
    have K1 := Lib.hid (K0.out.below hb1 K0.out.lt)
    have HP := Lib.hid (HS2.out p hs)
    clear hb1 hs HB0 K0 CO
    have x0 := K1.out.cell 0
    have x1 := K1.out.cell 1
    go_wp2_with fail
    with_reducible refine ((C3.out _)).mono ?_
    rintro e w2 ⟨rfl, hb2⟩
    have B2 := Lib.hid (below_then B1.out B1.out.size hb2)
    clear hb2
    go_wp2_with fail
    go_ret3
    exact HMK.out _ p g (.inl HP.out) B2.out
set_option maxRecDepth 100000 in
set_option maxHeartbeats 2000000 in
theorem made_list (kind k : Int) (P : Nat) (A : Option Addr) (l : List Ent) (c : Nat) (w : World) (hk0 : kind ≠ 0) (hk1 : kind ≠ 1) (hl : EI w A l) (hc1 : l.length ≤ c) (hc2 : c ≤ maxLen) (ho : Oks l) (hP : P < Mg.R)
    (hbig : ∀ i, i < l.length → (l.getD i .z).fs.length ≤ 1048576) :
    Calls Tryz.prog 9 #[.agg #[.int .i64 kind, .int .i64 k, .int .u64 P, .slice A l.length c]] w fun e w' => MadePost w e w' := by
  have HB0 := Lib.hid ((Below.refl w.heap.size w).alloc (Nat.le_refl _) (.cells #[.int .i64 kind, .int .i64 k, .int .u64 P, .slice A l.length c] 25))
  have K0 := Lib.hid (Blk.new w 25 #[.int .i64 kind, .int .i64 k, .int .u64 P, .slice A l.length c])
  have CO := Lib.hid fun W (hb : Below w.heap.size w W) => Of_list kind k P A l c W hk0 hk1 (hl.below hb) hc1 hc2 ho
  have HS := Lib.hid (show ∀ p, OfSays kind k P l p → p = 0 ∨ (l.length ≤ 40 ∧ checkS l = (0, 0) ∧ p = P ∧ ∃ j : Nat, indexOf l P 0 = (j : Int)) from fun p h => by
    rcases h with h | h | h | h
    · exact .inl h
    · exact absurd h.1 hk0
    · exact absurd h.1 hk1
    · exact .inr h.2.2)
  have HMK := Lib.hid (MadePost.mk w)
  have g0 : (kind == 0) = false := beq_eq_false_iff_ne.2 hk0
  have g1 : (kind == 1) = false := beq_eq_false_iff_ne.2 hk1
  by_cases h40 : l.length ≤ 40
  · have CR := Lib.hid fun W (hb : Below w.heap.size w W) => rows_big A c l W (hl.below hb) h40 hbig
    have CN := Lib.hid fun (A' : Option Addr) (c' : Nat) (W : World) (h1 : EI W A' l) (h2 : l.length ≤ c') (h3 : c' ≤ maxLen) => New_any A' c' l P W h1 h2 (by omega) h3 ho hP
    have q0 : decide ((l.length : Int) ≤ 40) = true := decide_eq_true (by omega)
    have q0' : decide (l.length ≤ 40) = true := decide_eq_true h40
    clear hl ho hbig hk0 hk1 hc2 h40
    generalize hn : l.length = n at *
    clear hn
    go_enter Tryz.func9, Tryz.ntmps9
    go_wp2_with fail
    with_reducible refine ((CO.out _ HB0.out)).mono ?_
    rintro e w1 ⟨p, g, z, rfl, hs, hb1⟩
    have B1 := Lib.hid (below_then HB0.out HB0.out.size hb1)
    have K1 := Lib.hid (K0.out.below hb1 K0.out.lt)
    have HP := Lib.hid (HS.out p hs)
    clear hb1 hs HB0 K0 CO
    have x0 := K1.out.cell 0
    have x2 := K1.out.cell 2
    have x3 := K1.out.cell 3
    have B1d := Lib.hid B1.out.drew
    have C1 := Lib.hid (CR.out w1.drew B1d.out)
    go_wp2_with fail
    have hS : w1.cell? ⟨w.heap.size, 3, none⟩ = some (.slice A n c) ∧ w1.cell? ⟨w.heap.size, 2, none⟩ = some (.int .u64 P) := ⟨x3, x2⟩
    have hS2 := Lib.hid hS
    go_region_held3 (fun W' => W'.cell? ⟨w.heap.size, 3, none⟩ = some (.slice A n c) ∧ W'.cell? ⟨w.heap.size, 2, none⟩ = some (.int .u64 P)) (first | exact hS | go_keep)
      (first
      | (go_at_call 21; refine C1.out.mono ?_; rintro e_ U2 ⟨A', c', rfl, hE, hc1', hc2', hb2⟩; (have B2 := Lib.hid (below_then B1d.out B1d.out.size hb2)); (have C2 := Lib.hid (CN.out A' c' U2 hE hc1' hc2')); (have hS : U2.cell? ⟨w.heap.size, 3, none⟩ = some (.slice A n c) ∧ U2.cell? ⟨w.heap.size, 2, none⟩ = some (.int .u64 P) := ⟨bcell hb2 hS2.out.1, bcell hb2 hS2.out.2⟩); (have hS3 := Lib.hid hS); clear hE hb2 hc2')
      | (go_at_call 22; refine C2.out.mono ?_; rintro e_ U3 ⟨fv, z2, rfl, hnew, hb3⟩; (have B3 := Lib.hid (below_then B2.out B2.out.size hb3)); (have HNEW := Lib.hid hnew); (have hS : U3.cell? ⟨w.heap.size, 3, none⟩ = some (.slice A n c) ∧ U3.cell? ⟨w.heap.size, 2, none⟩ = some (.int .u64 P) := ⟨bcell hb3 hS3.out.1, bcell hb3 hS3.out.2⟩); clear hnew hb3))
    go_wp2_with fail
    go_ret3
    exact HMK.out _ p g (by
      rcases HP.out with h | ⟨_, h1, h2, h3⟩
      · exact .inl h
      · obtain ⟨gf, G, e1, e2⟩ := HNEW.out h1 h3
        exact .inr ⟨gf, G, e1, by rw [h2]; exact e2⟩) B3.out
  · have q0 : decide ((l.length : Int) ≤ 40) = false := decide_eq_false (by omega)
    have q0' : decide (l.length ≤ 40) = false := decide_eq_false h40
    have HS2 := Lib.hid (show ∀ p, OfSays kind k P l p → p = 0 from fun p h => by
      rcases HS.out p h with h | h
      · exact h
      · exact absurd h.1 h40)
    clear hl ho hbig hk0 hk1 hc2 h40 HS
    generalize hn : l.length = n at *
    clear hn
    go_enter Tryz.func9, Tryz.ntmps9
    go_wp2_with fail
    with_reducible refine ((CO.out _ HB0.out)).mono ?_
    rintro e w1 ⟨p, g, z, rfl, hs, hb1⟩
    have B1 := Lib.hid (below_then HB0.out HB0.out.size hb1)
    have K1 := Lib.hid (K0.out.below hb1 K0.out.lt)
    have HP := Lib.hid (HS2.out p hs)
    clear hb1 hs HB0 K0 CO
    have x0 := K1.out.cell 0
    have x3 := K1.out.cell 3
    go_wp2_with fail
    go_ret3
    exact HMK.out _ p g (.inl HP.out) B1.out
/-- A source's field. -/
theorem made_any (kind k : Int) (P : Nat) (A : Option Addr) (l : List Ent) (c : Nat) (w : World) (hl : EI w A l) (hc1 : l.length ≤ c) (hc2 : c ≤ maxLen) (ho : Oks l) (hP : P < Mg.R)
    (hbig : ∀ i, i < l.length → (l.getD i .z).fs.length ≤ 1048576) :
    Calls Tryz.prog 9 #[.agg #[.int .i64 kind, .int .i64 k, .int .u64 P, .slice A l.length c]] w fun e w' => MadePost w e w' := by
  by_cases h0 : kind = 0
  · subst h0; exact made_small k P A l c w
  by_cases h1 : kind = 1
  · subst h1; exact made_known k P A l c w
  exact made_list kind k P A l c w h0 h1 hl hc1 hc2 ho hP hbig
end Go.Proofs.YtpkpadepccneeaaGreatDoor
