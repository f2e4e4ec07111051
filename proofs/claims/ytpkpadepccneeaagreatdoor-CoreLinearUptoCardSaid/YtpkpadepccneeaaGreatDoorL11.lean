/- What a call leaves as it was: all blocks but some; maps whose elements are read as they stand. No condition. -/
import Derived.Test.YtpkpadepccneeaaGreatDoorL09
import Derived.Test.YtpkpadepccneeaaGreatDoorL08
import Derived.Maps.OwnSet
import Derived.Maps.OwnOps
import Derived.Test.YtpkpadepccneeaaGreatDoorL10
namespace Go.Proofs.YtpkpadepccneeaaGreatDoor
open Go.RowKit
set_option linter.unusedVariables false
/-- All blocks that lay are as they were, but those of S. -/
structure Fr (S : Nat → Prop) (w w' : World) : Prop where
  os : w'.os = w.os
  tape : w'.tape = w.tape
  output : w'.output = w.output
  size : w.heap.size ≤ w'.heap.size
  block : ∀ i, i < w.heap.size → ¬ S i → w'.heap[i]? = w.heap[i]?
section
variable {S : Nat → Prop} {w w1 w2 : World}
theorem Fr.refl (S : Nat → Prop) (w : World) : Fr S w w := ⟨rfl, rfl, rfl, Nat.le_refl _, fun _ _ _ => rfl⟩
theorem Fr.trans (h : Fr S w w1) (k : Fr S w1 w2) : Fr S w w2 :=
  ⟨k.os.trans h.os, k.tape.trans h.tape, k.output.trans h.output, Nat.le_trans h.size k.size, fun i hi hs => (k.block i (Nat.lt_of_lt_of_le hi h.size) hs).trans (h.block i hi hs)⟩
theorem Fr.mono {T : Nat → Prop} (h : Fr S w w1) (hT : ∀ i, i < w.heap.size → S i → T i) : Fr T w w1 := ⟨h.os, h.tape, h.output, h.size, fun i hi hs => h.block i hi (fun k => hs (hT i hi k))⟩
theorem Fr.of_below (S : Nat → Prop) (h : Below w.heap.size w w1) : Fr S w w1 := ⟨h.os, h.tape, h.output, h.size, fun i hi _ => h.block i hi⟩
theorem Fr.of_grown {row : Option Nat} (h : w.grownBy w1 row) (hr : ∀ r, row = some r → S r) : Fr S w w1 := ⟨h.os, h.tape, h.output, h.size, fun i hi hs => h.block i hi (fun e => hs (hr i e.symm))⟩
theorem Fr.alloc (S : Nat → Prop) (w : World) (o : Obj) : Fr S w (w.alloc o) := .of_below S ((Below.refl _ _).alloc (Nat.le_refl _) o)
theorem Fr.drewN (S : Nat → Prop) (w : World) (n : Nat) : Fr S w (w.drewN n) := .of_below S (below_drewN (Below.refl _ _) n)
theorem Fr.setCell {p : Addr} (hp : S p.block) (w : World) (v : Value) : Fr S w (w.setCell p v) := ⟨rfl, rfl, rfl, by simp [World.setCell], fun i hi hs => Below.heap_setCell w p v i (fun e => hs (e ▸ hp))⟩
theorem Fr.to_below (h : Fr S w w1) {B : Nat} (hB : B ≤ w.heap.size) (hS : ∀ i, i < B → ¬ S i) : Below B w w1 := ⟨h.os, h.tape, h.output, h.size, fun i hi => h.block i (Nat.lt_of_lt_of_le hi hB) (hS i hi)⟩
theorem Fr.heap (h : Fr S w w1) {g : Nat} {o : Obj} (hg : w.heap[g]? = some o) (hS : ¬ S g) : w1.heap[g]? = some o := (h.block g (Array.getElem?_eq_some_iff.1 hg).1 hS).trans hg
theorem Fr.blk (h : Fr S w w1) {g : Nat} {t : TypeId} {cs : Array Value} (hg : Blk w g t cs) (hS : ¬ S g) : Blk w1 g t cs := h.heap hg hS
theorem Fr.cell (h : Fr S w w1) {a : Addr} {v : Value} (hc : w.cell? a = some v) (hS : ¬ S a.block) : w1.cell? a = some v :=
  (World.cell?_of_block (h.block a.block (World.block_lt_of_cell? w a hc) hS)).trans hc
theorem Fr.map {H : Type} {k : TypeId} {R : Value → Option (DataW H × List MemPlace)} {b n : Nat} {D : DataW H} (h : Fr S w w1) (hm : w.ownsMap Tryz.prog k R b n D) (hS : ¬ S b) : w1.ownsMap Tryz.prog k R b n D := by
  obtain ⟨es, clock, hb, F, hs, hD⟩ := hm
  exact ⟨es, clock, h.heap hb hS, F, hs, hD⟩
end
/-- An element as it stands. -/
def tok : Value → Option (DataW Value × List MemPlace) := fun v => some (.held v, [])
theorem tok_eq {v z : Value} {ps : List MemPlace} (h : tok v = some (.held z, ps)) : v = z := by
  unfold tok at h; injection h with h; injection h with h _; injection h
theorem FB.fr {S : Nat → Prop} {lo hi : Nat} {w w1 : World} {gf p g : Nat} (h : FB lo hi w gf p g) (hf : Fr S w w1) (hS : ∀ i, lo ≤ i → i < hi → ¬ S i) : FB lo hi w1 gf p g := by
  obtain ⟨gc, h1, h2, hc, c0⟩ := h.mc
  obtain ⟨t, t1, t2, d0, d1, d2, d3⟩ := hc.cells
  have n1 := hS gf h.above h.under
  have n2 := hS gc h1 h2
  exact ⟨h.above, h.under, ⟨gc, h1, h2, ⟨hc.odd, hc.low, hc.high, t, t1, t2, hf.cell d0 n2, hf.cell d1 n2, hf.cell d2 n2, hf.cell d3 n2⟩, hf.cell c0 n1⟩, hf.cell h.cp n1, hf.cell h.cg n1⟩
theorem FB.below {lo hi : Nat} {w w1 : World} {gf p g : Nat} (h : FB lo hi w gf p g) (hb : Below w.heap.size w w1) : FB lo hi w1 gf p g :=
  h.fr (.of_below (fun _ => False) hb) (fun _ _ _ h => h)
end Go.Proofs.YtpkpadepccneeaaGreatDoor

/- The walk of sieve.gather at 5. No condition. -/
namespace Go.Proofs.YtpkpadepccneeaaGreatDoor
open Go.RowKit Go.Maps
set_option linter.unusedVariables false
theorem key22 : Keyed Tryz.prog 22 := int_keyed Tryz.underlying22
theorem zero126 (w : World) : (zeroValue 126).run Tryz.prog w = .ok (.agg #[.int .u64 0, .int .u64 0, .slice none 0 0]) w := by kernel_rfl
/-- The map of the sieve, as it stands. -/
def SM (w : World) (b n : Nat) (D : DataW Value) : Prop := w.ownsMap Tryz.prog 22 tok b n D
def ent5 (g c : Nat) : Value := .agg #[.int .u64 5, .int .u64 2, .slice (some ⟨g, 0, none⟩) 1 c]
theorem gather_2 (b n g c : Nat) (w : World) (hm : SM w b n (.map [(.int .u64 5, .held (ent5 g c))])) :
    Calls Tryz.prog 120 #[.map (some b), .int .u64 2] w fun e w' => e = .returned undef ∧ Below w.heap.size w w' := by
  have HM := Lib.hid hm
  clear hm
  go_enter Tryz.func120, Tryz.ntmps120
  go_wp2_with (at_lookup; refine wpList_lookup_own_ok _ rfl (.tmp 10) (.tmp 11) 206 rfl 22 126 key22 Tryz.underlying206 tok (zero126 _) (.held (.agg #[.int .u64 0, .int .u64 0, .slice none 0 0])) [] rfl b n _ rfl HM.out (.int .u64 2) (.int .u64 2) rfl (keyOf_int_mk Tryz.underlying22 (by decide)) ?_; intro v ps hv; obtain rfl := tok_eq (show tok v = some (.held (.agg #[.int .u64 0, .int .u64 0, .slice none 0 0]), ps) from hv); clear hv)
  exact bodyPost_ret (results_none rfl _ _ _) rfl ⟨rfl, (Below.refl _ _).alloc (Nat.le_refl _) _⟩
set_option maxHeartbeats 1000000 in
theorem gather_5 (b n : Nat) (w : World) (hm : SM w b n (.map [])) (hn : n < 1000) :
    Calls Tryz.prog 120 #[.map (some b), .int .u64 5] w fun e w' => ∃ g c, e = .returned undef ∧ SM w' b (n + 1) (.map [(.int .u64 5, .held (ent5 g c))]) ∧ Fr (· = b) w w' ∧ w.heap.size ≤ g ∧ g < w'.heap.size ∧ 1 ≤ c ∧ c ≤ maxLen ∧
      w'.cell? ⟨g, 0, none⟩ = some (.int .u64 2) ∧ w'.cell? ⟨g, 1, none⟩ = some (.int .i64 2) := by
  have hbw : b < w.heap.size := World.ownsMap.lt hm
  have HM := Lib.hid hm
  have HM1 := Lib.hid (World.ownsMap.alloc hm (.cells #[.int .u64 0, .int .u64 0, .slice none 0 0] 126))
  have F1 := Lib.hid (Fr.alloc (· = b) w (.cells #[.int .u64 0, .int .u64 0, .slice none 0 0] 126))
  clear hm
  go_enter Tryz.func120, Tryz.ntmps120
  go_wp2_with (at_lookup; refine wpList_lookup_own_ok _ rfl (.tmp 10) (.tmp 11) 206 rfl 22 126 key22 Tryz.underlying206 tok (zero126 _) (.held (.agg #[.int .u64 0, .int .u64 0, .slice none 0 0])) [] rfl b n _ rfl HM.out (.int .u64 5) (.int .u64 5) rfl (keyOf_int_mk Tryz.underlying22 (by decide)) ?_; intro v ps hv; obtain rfl := tok_eq (show tok v = some (.held (.agg #[.int .u64 0, .int .u64 0, .slice none 0 0]), ps) from hv); clear hv)
  with_reducible refine (Factor_4r _).mono ?_
  rintro e w1 ⟨g, c, rfl, h⟩
  have F2 := Lib.hid (F1.out.trans (Fr.of_below (· = b) h.bl))
  have M2 := Lib.hid ((Fr.of_below (fun _ => False) h.bl).map HM1.out (fun h => h))
  have HR := Lib.hid h
  clear h F1 HM1 HM
  go_wp2_with fail
  with_reducible refine ((Generator_5 w1)).mono ?_
  rintro e w2 ⟨rfl, hb⟩
  have F3 := Lib.hid (F2.out.trans (Fr.of_below (· = b) hb))
  have M3 := Lib.hid ((Fr.of_below (fun _ => False) hb).map M2.out (fun h => h))
  have K0 := Lib.hid (bcell hb HR.out.k0)
  have K1 := Lib.hid (bcell hb HR.out.k1)
  have S3 := Lib.hid (Nat.lt_of_lt_of_le HR.out.b2 hb.size)
  clear hb F2 M2
  go_wp2_with (at_mapUpdate; refine wpList_mapUpdate_own _ rfl (.tmp 23) (.tmp 24) (.tmp 29) 206 rfl 22 126 key22 Tryz.underlying206 tok b n _ rfl M3.out (by unfold maxLen; omega) (.int .u64 5) (ent5 g c) (.int .u64 5) rfl rfl (keyOf_int_mk Tryz.underlying22 (by decide)) (.held (ent5 g c)) [] rfl ?_; intro w3 hm3 hg3; have M4 := Lib.hid (show SM w3 b (n + 1) (.map [(.int .u64 5, .held (ent5 g c))]) from hm3); have F4 := Lib.hid (F3.out.trans (Fr.of_grown hg3 (fun r e => (Option.some.inj e).symm))); have J := Lib.hid hg3; clear hm3 hg3)
  have hgb : ¬ g = b := by have h1 := HR.out.b1; simp at h1; omega
  have k0 : w3.cell? ⟨g, 0, none⟩ = some (.int .u64 2) := (Fr.of_grown (S := (· = b)) J.out (fun r e => (Option.some.inj e).symm)).cell K0.out hgb
  have k1 : w3.cell? ⟨g, 1, none⟩ = some (.int .i64 2) := (Fr.of_grown (S := (· = b)) J.out (fun r e => (Option.some.inj e).symm)).cell K1.out hgb
  have HK0 := Lib.hid k0
  have HK1 := Lib.hid k1
  have S4 := Lib.hid (Nat.lt_of_lt_of_le S3.out J.out.size)
  have M5 := Lib.hid (show SM (w3.alloc (.cells #[.int .u64 2, .int .i64 2] 130)) b (n + 1) (.map [(.int .u64 5, .held (ent5 g c))]) from World.ownsMap.alloc M4.out (.cells #[.int .u64 2, .int .i64 2] 130))
  have F5 := Lib.hid (F4.out.trans (Fr.alloc (· = b) w3 (.cells #[.int .u64 2, .int .i64 2] 130)))
  refine wp_loop_rounds 3 ?_
  rw [rounds_succ]
  go_wp2_with fail
  with_reducible refine ((gather_2 b (n + 1) g c _ M5.out)).mono ?_
  rintro e w4 ⟨rfl, hb4⟩
  have HB4 := Lib.hid (Below.trans ((Below.refl w3.heap.size w3).alloc (Nat.le_refl _) (.cells #[.int .u64 2, .int .i64 2] 130)) (hb4.mono (by simp)))
  have F6 := Lib.hid (F4.out.trans (Fr.of_below (· = b) HB4.out))
  have M6 := Lib.hid ((Fr.of_below (fun _ => False) HB4.out).map M4.out (fun h => h))
  clear hb4 k0 k1
  go_wp2_with fail
  rw [rounds_succ]
  go_wp2_with fail
  exact bodyPost_end (results_none rfl _ _ _) rfl ⟨g, c, rfl, M6.out, F6.out, by have h1 := HR.out.b1; simp at h1; omega, Nat.lt_of_lt_of_le S4.out HB4.out.size, HR.out.c1, HR.out.c2, bcell HB4.out HK0.out, bcell HB4.out HK1.out⟩
end Go.Proofs.YtpkpadepccneeaaGreatDoor
