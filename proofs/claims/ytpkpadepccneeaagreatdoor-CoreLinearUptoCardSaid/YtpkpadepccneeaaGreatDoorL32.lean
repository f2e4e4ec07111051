/- The walk of the top's alive. No condition but that strconv's table of powers of ten is what the program's text lays. -/
import Derived.Test.YtpkpadepccneeaaGreatDoorL31
import Derived.Test.YtpkpadepccneeaaGreatDoorL30
import Derived.Lib.AppendIntMem
import Derived.Lib.SmallJoins
import Derived.Test.YtpkpadepccneeaaGreatDoorL09
import Derived.Test.YtpkpadepccneeaaGreatDoorL11
import Derived.Test.YtpkpadepccneeaaGreatDoorL14
namespace Go.Proofs.YtpkpadepccneeaaGreatDoor
set_option linter.unusedVariables false
set_option linter.unusedSimpArgs false
open Go Go.RowKit Go.Shelf Go.Maps
theorem done4_1234 : done4 [1, 2, 3, 4] = [0, 4, 3, 2] := by decide
/-- What lies behind alive's first steps: the map, the cache, the session, the view's two rows and its box. -/
structure AL0 (w W : World) : Prop where
  m : KM W w.heap.size 0 (.map [])
  c : Blk W (w.heap.size + 1) 112 (cacheCs 1 (.slice none 0 0) w.heap.size 0 0)
  s : Blk W (w.heap.size + 2) 142 (sessCs (.pointer none) (.slice none 0 0) (w.heap.size + 1))
  a : Blk W (w.heap.size + 1 + 1 + 1) 3 #[.int .i64 4]
  b : Blk W (w.heap.size + 1 + 1 + 1 + 1) 3 #[.int .i64 1]
  t : Blk W (w.heap.size + 1 + 1 + 1 + 1 + 1) 80 #[.int .i64 0, .int .i64 0, .slice (some ⟨w.heap.size + 1 + 1 + 1, 0, none⟩) 1 1, .slice (some ⟨w.heap.size + 1 + 1 + 1 + 1, 0, none⟩) 1 1]
  h : Below w.heap.size w W
  z : W.heap.size = w.heap.size + 6
theorem AL0.new (w : World) : AL0 w ((((((w.alloc (.map #[] 0)).alloc (.cells (cacheCs 1 (.slice none 0 0) w.heap.size 0 0) 112)).alloc (.cells (sessCs (.pointer none) (.slice none 0 0) (w.heap.size + 1)) 142)).alloc (.cells #[.int .i64 4] 3)).alloc (.cells #[.int .i64 1] 3)).alloc
    (.cells #[.int .i64 0, .int .i64 0, .slice (some ⟨w.heap.size + 1 + 1 + 1, 0, none⟩) 1 1, .slice (some ⟨w.heap.size + 1 + 1 + 1 + 1, 0, none⟩) 1 1] 80)) := by
  have h0 : (w.alloc (.map #[] 0)).heap[w.heap.size]? = some (.map #[] 0) := heap_alloc_new w _
  have h1 := Blk.new (w.alloc (.map #[] 0)) 112 (cacheCs 1 (.slice none 0 0) w.heap.size 0 0)
  have h2 := Blk.new ((w.alloc (.map #[] 0)).alloc (.cells (cacheCs 1 (.slice none 0 0) w.heap.size 0 0) 112)) 142 (sessCs (.pointer none) (.slice none 0 0) (w.heap.size + 1))
  have h3 := Blk.new (((w.alloc (.map #[] 0)).alloc (.cells (cacheCs 1 (.slice none 0 0) w.heap.size 0 0) 112)).alloc (.cells (sessCs (.pointer none) (.slice none 0 0) (w.heap.size + 1)) 142)) 3 #[.int .i64 4]
  have h4 := Blk.new ((((w.alloc (.map #[] 0)).alloc (.cells (cacheCs 1 (.slice none 0 0) w.heap.size 0 0) 112)).alloc (.cells (sessCs (.pointer none) (.slice none 0 0) (w.heap.size + 1)) 142)).alloc (.cells #[.int .i64 4] 3)) 3 #[.int .i64 1]
  have h5 := Blk.new (((((w.alloc (.map #[] 0)).alloc (.cells (cacheCs 1 (.slice none 0 0) w.heap.size 0 0) 112)).alloc (.cells (sessCs (.pointer none) (.slice none 0 0) (w.heap.size + 1)) 142)).alloc (.cells #[.int .i64 4] 3)).alloc (.cells #[.int .i64 1] 3)) 80 #[.int .i64 0, .int .i64 0, .slice (some ⟨w.heap.size + 1 + 1 + 1, 0, none⟩) 1 1, .slice (some ⟨w.heap.size + 1 + 1 + 1 + 1, 0, none⟩) 1 1]
  simp only [World.size_alloc] at h1 h2 h3 h4 h5
  have hb := below6 w (.map #[] 0) (.cells (cacheCs 1 (.slice none 0 0) w.heap.size 0 0) 112) (.cells (sessCs (.pointer none) (.slice none 0 0) (w.heap.size + 1)) 142) (.cells #[.int .i64 4] 3) (.cells #[.int .i64 1] 3)
    (.cells #[.int .i64 0, .int .i64 0, .slice (some ⟨w.heap.size + 1 + 1 + 1, 0, none⟩) 1 1, .slice (some ⟨w.heap.size + 1 + 1 + 1 + 1, 0, none⟩) 1 1] 80)
  refine ⟨?_, (((h1.alloc _).alloc _).alloc _).alloc _, ((h2.alloc _).alloc _).alloc _, (h3.alloc _).alloc _, h4.alloc _, h5, hb, by simp only [World.size_alloc]⟩
  have k0 : KM (w.alloc (.map #[] 0)) w.heap.size 0 (.map []) := Joins.ownsMap_empty h0
  exact World.ownsMap.alloc (World.ownsMap.alloc (World.ownsMap.alloc (World.ownsMap.alloc (World.ownsMap.alloc k0 _) _) _) _) _
/-- The same but the session. -/
structure AP (w W : World) : Prop where
  m : KM W w.heap.size 0 (.map [])
  c : Blk W (w.heap.size + 1) 112 (cacheCs 1 (.slice none 0 0) w.heap.size 0 0)
  a : Blk W (w.heap.size + 1 + 1 + 1) 3 #[.int .i64 4]
  b : Blk W (w.heap.size + 1 + 1 + 1 + 1) 3 #[.int .i64 1]
  t : Blk W (w.heap.size + 1 + 1 + 1 + 1 + 1) 80 #[.int .i64 0, .int .i64 0, .slice (some ⟨w.heap.size + 1 + 1 + 1, 0, none⟩) 1 1, .slice (some ⟨w.heap.size + 1 + 1 + 1 + 1, 0, none⟩) 1 1]
  h : Below w.heap.size w W
theorem AL0.ap {w W : World} (h : AL0 w W) : AP w W := ⟨h.m, h.c, h.a, h.b, h.t, h.h⟩
theorem AP.fr {w W W' : World} (h : AP w W) (hf : Fr (fun i => i = w.heap.size + 2) W W') : AP w W' :=
  ⟨hf.map h.m (show ¬ w.heap.size = w.heap.size + 2 by omega), hf.blk h.c (show ¬ w.heap.size + 1 = w.heap.size + 2 by omega), hf.blk h.a (show ¬ w.heap.size + 1 + 1 + 1 = w.heap.size + 2 by omega), hf.blk h.b (show ¬ w.heap.size + 1 + 1 + 1 + 1 = w.heap.size + 2 by omega),
    hf.blk h.t (show ¬ w.heap.size + 1 + 1 + 1 + 1 + 1 = w.heap.size + 2 by omega),
    ((Fr.of_below (fun _ => False) h.h).or hf (U := fun i => w.heap.size ≤ i) (fun _ _ h => h.elim) (fun i hi h => by omega)).to_below (Nat.le_refl _) (fun i h1 h2 => by omega)⟩
theorem AP.below {w W W' : World} (h : AP w W) (hf : Below W.heap.size W W') : AP w W' := h.fr (Fr.of_below _ hf)
theorem ri4 {k : IntKind} {W : World} {g : Nat} {t : TypeId} {a b c d : Int} (h : Blk W g t #[.int k a, .int k b, .int k c, .int k d]) : RI k W (some ⟨g, 0, none⟩) [a, b, c, d] := fun i hi => by
  refine ⟨_, rfl, ?_⟩
  rw [addr_add, Nat.zero_add, h.cell i]
  have : i < 4 := hi
  rcases i with _ | _ | _ | _ | i
  · rfl
  · rfl
  · rfl
  · rfl
  · omega
theorem ri1 {k : IntKind} {W : World} {g : Nat} {t : TypeId} {a : Int} (h : Blk W g t #[.int k a]) : RI k W (some ⟨g, 0, none⟩) [a] := fun i hi => by
  refine ⟨_, rfl, ?_⟩
  rw [addr_add, Nat.zero_add, h.cell i]
  have : i < 1 := hi
  rcases i with _ | i
  · rfl
  · omega
set_option maxRecDepth 100000 in
set_option maxHeartbeats 4000000 in
theorem alive_any (w : World) (htab : Lib.TabIs Tryz.prog w "internal/strconv.uint64pow10" .u64 Lib.pow10Tab) :
    Calls Tryz.prog 7 #[] w fun e w' => e = .returned (.bool true) ∧ Below w.heap.size w w' := by
  have TB := Lib.hid (Lib.tabBelow_of_tabIs htab)
  have L0 := Lib.hid (AL0.new w)
  clear htab
  go_enter Tryz.func7, Tryz.ntmps7
  go_wp2_with fail
  refine (sessNew_1 w).mono ?_
  rintro e w' ⟨rfl, rfl⟩
  go_wp2_with fail
  generalize (((((w.alloc (.map #[] 0)).alloc (.cells (cacheCs 1 (.slice none 0 0) w.heap.size 0 0) 112)).alloc (.cells (sessCs (.pointer none) (.slice none 0 0) (w.heap.size + 1)) 142)).alloc (.cells #[.int .i64 4] 3)).alloc (.cells #[.int .i64 1] 3)).alloc
    (.cells #[.int .i64 0, .int .i64 0, .slice (some ⟨w.heap.size + 1 + 1 + 1, 0, none⟩) 1 1, .slice (some ⟨w.heap.size + 1 + 1 + 1 + 1, 0, none⟩) 1 1] 80) = W at *
  have D1 := Lib.hid (Do_small (w.heap.size + 2) (.pointer none) (.slice none 0 0) (w.heap.size + 1) W L0.out.s)
  refine D1.out.mono ?_
  rintro e w1 ⟨gf, lo, hi, rfl, hf1, hlo1, hhi1, hs1, hfr1⟩
  have F1 := Lib.hid hf1
  have S1 := Lib.hid hs1
  have R1 := Lib.hid hfr1
  clear hf1 hs1 hfr1 D1
  have K0 := Lib.hid (Blk.new w1 22 #[.int .u64 1, .int .u64 2, .int .u64 3, .int .u64 4])
  have BA := Lib.hid ((Below.refl w1.heap.size w1).alloc (Nat.le_refl _) (.cells #[.int .u64 1, .int .u64 2, .int .u64 3, .int .u64 4] 22))
  go_wp2_with fail
  have A1 := Lib.hid ((L0.out.ap.fr R1.out).below BA.out)
  have hz := L0.out.z
  have S1' := Lib.hid (S1.out.below BA.out S1.out.lt)
  have F1' := Lib.hid (F1.out.below BA.out)
  have hhi2 : hi ≤ (w1.alloc (.cells #[.int .u64 1, .int .u64 2, .int .u64 3, .int .u64 4] 22)).heap.size := Nat.le_trans hhi1 BA.out.size
  clear L0 R1 S1 F1 BA
  generalize w1.alloc (.cells #[.int .u64 1, .int .u64 2, .int .u64 3, .int .u64 4] 22) = V1 at *
  have D2 := Lib.hid (Do_buffer (w.heap.size + 2) (.pointer (some ⟨gf, 0, none⟩)) (.slice none 0 0) (w.heap.size + 1) ⟨w1.heap.size, 0, none⟩ 4 [1, 2, 3, 4] V1 S1'.out (ri4 K0.out) rfl)
  refine D2.out.mono ?_
  rintro e w2 ⟨gb, cb, rfl, ho2, hs2, hfr2⟩
  have hgb := (OI.base ho2)
  have hV0 : w.heap.size + 1 + 1 + 1 + 1 + 1 < V1.heap.size := A1.out.t.lt
  have A2 := Lib.hid (A1.out.fr hfr2)
  have F2 := Lib.hid (F1'.out.fr hfr2 (fun i h1 h2 h => by omega))
  have S2 := Lib.hid hs2
  have O2 := Lib.hid (show OL w2 V1.heap.size gb cb [1, 2, 3, 4] from ho2)
  have hhi3 : hi ≤ w2.heap.size := Nat.le_trans hhi2 hfr2.size
  clear ho2 hs2 hfr2 D2 A1 S1' F1' K0
  have t0 := A2.out.t.cell 0
  have t1 := A2.out.t.cell 1
  have t2 := A2.out.t.cell 2
  have t3 := A2.out.t.cell 3
  have BB := Lib.hid ((Below.refl w2.heap.size w2).alloc (Nat.le_refl _) (.cells #[.int .i64 0] 3))
  have KX := Lib.hid (Blk.new w2 3 #[.int .i64 0])
  go_wp2_with fail
  have A3 := Lib.hid (A2.out.below BB.out)
  have F3 := Lib.hid (F2.out.below BB.out)
  have S3 := Lib.hid (S2.out.below BB.out S2.out.lt)
  have O3 := Lib.hid (show OL _ V1.heap.size gb cb [1, 2, 3, 4] from OI.below O2.out BB.out)
  have hhi4 : hi ≤ (w2.alloc (.cells #[.int .i64 0] 3)).heap.size := Nat.le_trans hhi3 BB.out.size
  have hgb2 : gb < w2.heap.size := hgb.2
  have hgb3 : gb < (w2.alloc (.cells #[.int .i64 0] 3)).heap.size := Nat.lt_of_lt_of_le hgb.2 BB.out.size
  have hsz2 : w.heap.size + 5 < w2.heap.size := A2.out.t.lt
  have hV1 := hgb.1
  clear A2 F2 S2 O2 BB t0 t1 t2 t3
  generalize w2.alloc (.cells #[.int .i64 0] 3) = V2 at *
  have D3 := Lib.hid (Do_run (w.heap.size + 2) (w.heap.size + 1) w.heap.size 0 gf lo hi w2.heap.size gb cb V1.heap.size ⟨w.heap.size + 1 + 1 + 1, 0, none⟩ ⟨w.heap.size + 1 + 1 + 1 + 1, 0, none⟩ 1 1 1 [1, 2, 3, 4] V2 S3.out F3.out (ri1 A3.out.a) (ri1 A3.out.b) (KX.out.cell 0) O3.out rfl (by decide)
    A3.out.c A3.out.m (by decide) (by omega) (by omega) (by omega) hhi4 (by simp; omega) (by simp; omega) (by omega) (by omega) (by omega) hgb3)
  refine D3.out.mono ?_
  rintro e w3 ⟨rfl, ho3, ⟨AA, cap, hc3⟩, hfr3⟩
  rw [done4_1234] at ho3
  have BV := Lib.hid ((((Fr.of_below (fun _ => False) A3.out.h).or hfr3 (U := fun i => w.heap.size ≤ i) (fun _ _ h => h.elim) (fun i hi h => by omega)).to_below (Nat.le_refl _) (fun i h1 h2 => by omega)).trans (((Below.refl w3.heap.size w3).alloc (Nat.le_refl _) (.cells #[.int .i64 0, .slice none 0 0] 82)).mono (by have := hfr3.size; have := A3.out.h.size; omega)))
  have hz3 := (Below.refl w3.heap.size w3).alloc (Nat.le_refl _) (.cells #[.int .i64 0, .slice none 0 0] 82)
  have S4 := Lib.hid ((hfr3.blk S3.out (show ¬ (w.heap.size + 2 = w.heap.size + 1 ∨ w.heap.size + 2 = w.heap.size ∨ w.heap.size + 2 = gb) by omega)).below hz3 (hfr3.blk S3.out (show ¬ (w.heap.size + 2 = w.heap.size + 1 ∨ w.heap.size + 2 = w.heap.size ∨ w.heap.size + 2 = gb) by omega)).lt)
  have C4 := Lib.hid (hc3.below hz3 hc3.lt)
  have O4 := Lib.hid (show OI .u64 22 (w3.alloc (.cells #[.int .i64 0, .slice none 0 0] 82)) V1.heap.size (.slice (some ⟨gb, 0, none⟩) 4 cb) [0, 4, 3, 2] from OI.below ho3 hz3)
  have K4 := Lib.hid (Blk.new w3 82 #[.int .i64 0, .slice none 0 0])
  clear D3 A3 F3 S3 O3 KX ho3 hc3 hfr3 hz3
  go_wp2_with fail
  generalize w3.alloc (.cells #[.int .i64 0, .slice none 0 0] 82) = V3 at *
  have ML := Lib.hid (Mul_12 V3 (fun W h => TB.out.on BV.out W (h.mono (by have := BV.out.size; omega))))
  refine ML.out.mono ?_
  rintro e w4 ⟨rfl, hb4⟩
  have S5 := Lib.hid (S4.out.below hb4 S4.out.lt)
  have C5 := Lib.hid (C4.out.below hb4 C4.out.lt)
  have O5 := Lib.hid (OI.below O4.out hb4)
  have K5 := Lib.hid (K4.out.below hb4 K4.out.lt)
  have B5 := Lib.hid (below_then BV.out BV.out.size hb4)
  clear hb4 ML S4 C4 O4 K4 BV TB
  have e0 := K5.out.cell 0
  have CE := Lib.hid (Cells_0 (w.heap.size + 2) (.pointer (some ⟨gf, 0, none⟩)) (w.heap.size + 1) gb cb [0, 4, 3, 2] w4 S5.out (riL_of (ys := [0, 4, 3, 2]) O5.out) rfl)
  go_wp2_with fail
  refine CE.out.mono ?_
  rintro e w5 ⟨g5, c5, rfl, ho5, hb5⟩
  have S6 := Lib.hid (S5.out.below hb5 S5.out.lt)
  have C6 := Lib.hid (C5.out.below hb5 C5.out.lt)
  have B6 := Lib.hid (below_then B5.out B5.out.size hb5)
  have BZ := Lib.hid ((Below.refl w5.heap.size w5).alloc (Nat.le_refl _) (.cells #[.int .u64 0, .int .u64 4, .int .u64 3, .int .u64 2] 22))
  have SM := Lib.hid (show Calls Tryz.prog 13 #[.slice (some ⟨g5, 0, none⟩) 4 c5, .slice (some ⟨w5.heap.size, 0, none⟩) 4 4] (w5.alloc (.cells #[.int .u64 0, .int .u64 4, .int .u64 3, .int .u64 2] 22)) fun e w' => e = .returned (.bool true) ∧ Drawn (w5.alloc (.cells #[.int .u64 0, .int .u64 4, .int .u64 3, .int .u64 2] 22)) w' from
    same_any (some ⟨g5, 0, none⟩) (some ⟨w5.heap.size, 0, none⟩) c5 4 [0, 4, 3, 2] [0, 4, 3, 2] _ (riL_of (ys := [0, 4, 3, 2]) (OI.below ho5 BZ.out)) (ri4 (Blk.new w5 22 #[.int .u64 0, .int .u64 4, .int .u64 3, .int .u64 2])) (by decide))
  clear ho5 hb5 S5 C5 O5 CE e0 K5
  go_wp2_with fail
  refine SM.out.mono ?_
  rintro e w6 ⟨rfl, hd6⟩
  have B7 := Lib.hid (below_then B6.out B6.out.size (BZ.out.trans ((hd6.below _).mono BZ.out.size)))
  have S7 := Lib.hid ((S6.out.below BZ.out S6.out.lt).below (hd6.below _) (S6.out.below BZ.out S6.out.lt).lt)
  have C7 := Lib.hid ((C6.out.below BZ.out C6.out.lt).below (hd6.below _) (C6.out.below BZ.out C6.out.lt).lt)
  have KP := Lib.hid (Kept_1 (w.heap.size + 2) (.pointer (some ⟨gf, 0, none⟩)) (.slice (some ⟨gb, 0, none⟩) 4 cb) (w.heap.size + 1) 1 AA cap w.heap.size 0 1 w6 S7.out C7.out)
  clear hd6 S6 C6 SM BZ
  go_wp2_with fail
  refine KP.out.mono ?_
  rintro e w7 ⟨rfl, rfl⟩
  go_wp2_with fail
  go_ret
  exact ⟨rfl, B7.out⟩
end Go.Proofs.YtpkpadepccneeaaGreatDoor

/- The walk of the top's rows: a row of the document's entries as the program has it. Condition: at most 40 entries of at most 1048576 factors. -/
namespace Go.Proofs.YtpkpadepccneeaaGreatDoor
set_option linter.unusedVariables false
set_option linter.unusedSimpArgs false
open Go Go.RowKit Go.Shelf
section
variable {P : Program} {α : Type}
/-- As wpList_appendX1, with all blocks told that are as they were. -/
theorem wpList_appendXg {W : World} {ops : Array Oper} {rest : List Oper} {o : Oper} {a : Act} {Q : Exit → Act → World → Prop} (hgd : o.guard = none) (s x : Operand) (t : TypeId)
    (ho : o.op = .call { callee := .builtin .append, args := #[s, x], argTypes := #[t, t] }) (enc : α → List Value) (sz : Nat) (B : Nat) (e : TypeId) (z : Value) (bytes : Nat) (ht : P.underlying t = some (.slice e))
    (hi : (P.info? e).map (fun i => (i.zero, i.size, i.bytes)) = some (some z, sz, bytes)) (hby : bytes ≤ 64) (hz : z.cells.size = sz) (hsz : 0 < sz)
    (v : Value) (l : List α) (y : α) (cs : Array Value) (hcs : cs.toList = enc y) (hs : a.eval s = v) (hx : a.eval x = .slice (some ⟨W.heap.size, 0, none⟩) 1 1) (hown : OX enc sz e W B v l) (hys : (enc y).length = sz) (h1c : ∀ u ∈ enc y, u.oneCell' = true)
    (hlen : l.length + 1 ≤ 17592186044) (hB : B ≤ W.heap.size)
    (h : ∀ v' w', OX enc sz e w' B v' (l ++ [y]) → Fr (fun i => v.ownBlock = some i) W w' → Below B W w' → wpList P ops Q rest (a.put o.dst v') w') :
    wpList P ops Q (o :: rest) a (W.alloc (.cells cs e)) := by
  obtain ⟨i0, h1, h2, h3, h4⟩ := info_parts hi
  refine wpList_append_own _ hgd s x t ho B e i0 z sz bytes ht h1 h2 h3 h4 hz hsz v l.length (l.flatMap enc) hs (OX.alloc hown _) ⟨W.heap.size, 0, none⟩ 1 1 (enc y) hx (by rw [hys, Nat.one_mul]) ?_ h1c ?_ ?_ ?_ ?_
  · intro j u hj
    rw [← hcs] at hj
    have hb : Blk (W.alloc (.cells cs e)) W.heap.size e cs := Blk.new W e cs
    have := hb.cell j
    rw [show (⟨W.heap.size, 0, none⟩ : Addr).add j = ⟨W.heap.size, j, none⟩ by unfold Addr.add; by_cases h : j = 0 <;> simp [h]]
    rw [this, ← hj]
    simp
  · unfold maxLen; omega
  · calc (l.length + 1) * bytes ≤ (l.length + 1) * 64 := Nat.mul_le_mul_left _ hby
      _ ≤ 140737488355328 := by omega
  · simp; omega
  · intro v' w' hown' hg _
    refine h v' w' ?_ ?_ ?_
    · unfold OX; simpa using hown'
    · exact (Fr.alloc _ W _).trans (Fr.of_grown hg (fun r h => h))
    · exact ((Below.refl _ _).alloc hB _).grown hg (by simp; omega) (fun g hg' => (hown.lt g hg').1)
end
theorem OX.fr {α : Type} {enc : α → List Value} {sz : Nat} {e : TypeId} {w w1 : World} {B : Nat} {v : Value} {l : List α} {S : Nat → Prop} (h : OX enc sz e w B v l) (hf : Fr S w w1) (hS : ∀ g, v.ownBlock = Option.some g → ¬ S g) : OX enc sz e w1 B v l := by
  refine ⟨h.1, ?_⟩
  rcases h.2 with h1 | ⟨g, cap, cur, rfl, h2, hh, h3⟩
  · exact .inl h1
  · exact .inr ⟨g, cap, cur, rfl, h2, hf.heap hh (hS g rfl), h3⟩
theorem OX.type {α : Type} {enc : α → List Value} {sz : Nat} {e : TypeId} {w : World} {B : Nat} {v : Value} {l : List α} (h : OX enc sz e w B v l) {g : Nat} (hg : v.ownBlock = Option.some g) : ∃ cur, w.heap[g]? = Option.some (.cells cur e (0, 0)) := by
  rcases h.2 with ⟨h1, _⟩ | ⟨g', cap, cur, rfl, h2, hh, h3⟩
  · rw [h1] at hg; simp [Value.ownBlock] at hg
  · have : g' = g := by simpa [Value.ownBlock] using hg
    subst this
    exact ⟨cur, hh⟩
theorem OX.apart {α β : Type} {enc : α → List Value} {enc' : β → List Value} {sz sz' : Nat} {e e' : TypeId} {w : World} {B B' : Nat} {v v' : Value} {l : List α} {l' : List β} (h : OX enc sz e w B v l) (h' : OX enc' sz' e' w B' v' l') (hne : e ≠ e') {g : Nat} (hg : v.ownBlock = Option.some g) : ¬ v'.ownBlock = Option.some g := fun hg' => by
  obtain ⟨c1, h1⟩ := h.type hg
  obtain ⟨c2, h2⟩ := h'.type hg'
  rw [h1] at h2
  injection h2 with h2
  injection h2 with _ h2 _
  exact hne h2
theorem fi_of {w : World} {B : Nat} {F : Option Addr} {n c : Nat} {fs : List Fac} (h : OX facEnc 2 130 w B (.slice F n c) fs) : FI w F fs ∧ n = fs.length ∧ fs.length ≤ c := by
  rcases h.form facEnc_len with ⟨e, hl⟩ | ⟨g, c', e, h1, h2, h3, h4, h5⟩
  · injection e with e1 e2 e3
    subst hl
    refine ⟨fun i hi => absurd hi (by simp), ?_, ?_⟩
    · rw [e2]; rfl
    · exact Nat.zero_le _
  · injection e with e1 e2 e3
    refine ⟨fun i hi => ⟨g, 0, e1, ?_, ?_⟩, e2, by rw [e3]; exact h3⟩
    · have := h5 i 0 hi (by decide)
      rw [Nat.zero_add]
      rw [Nat.add_zero] at this
      rw [this, List.getElem?_eq_getElem hi, List.getD_eq_getElem?_getD, List.getElem?_eq_getElem hi]
      rfl
    · have := h5 i 1 hi (by decide)
      rw [Nat.zero_add]
      rw [this, List.getElem?_eq_getElem hi, List.getD_eq_getElem?_getD, List.getElem?_eq_getElem hi]
      rfl
/-- An entry's cells. -/
def tri (x : Nat × Nat × Value) : List Value := [.int .u64 (x.1 : Int), .int .u64 (x.2.1 : Int), x.2.2]
theorem tri_len (x : Nat × Nat × Value) : (tri x).length = 3 := rfl
/-- What the rounds stand on: the first k entries lie, each with its factors. -/
structure RW (w wr : World) (k : Nat) (l : List Ent) (v : Value) : Prop where
  ex : ∃ xs : List (Nat × Nat × Value), xs.length = k ∧ OX tri 3 126 wr w.heap.size v xs ∧ ∀ i, i < k → ∃ F c, xs[i]? = some ((l.getD i .z).p, (l.getD i .z).g, .slice F (l.getD i .z).fs.length c) ∧ OX facEnc 2 130 wr w.heap.size (.slice F (l.getD i .z).fs.length c) (l.getD i .z).fs
  below : Below w.heap.size w wr
theorem RW.start (w : World) (l : List Ent) : RW w w 0 l (.slice none 0 0) := ⟨⟨[], rfl, OX.nil _ _ _ _ _, fun i hi => absurd hi (by omega)⟩, Below.refl _ _⟩
theorem RW.then {w wr wq : World} {k : Nat} {l : List Ent} {v : Value} (h : RW w wr k l v) (hb : Below wr.heap.size wr wq) : RW w wq k l v := by
  obtain ⟨⟨xs, h1, h2, h3⟩, h4⟩ := h
  refine ⟨⟨xs, h1, h2.below hb, fun i hi => ?_⟩, below_then h4 h4.size hb⟩
  obtain ⟨F, c, h5, h6⟩ := h3 i hi
  exact ⟨F, c, h5, h6.below hb⟩
theorem RW.done {w wr : World} {l : List Ent} {v : Value} (h : RW w wr l.length l v) : ∃ A c, v = .slice A l.length c ∧ EI wr A l ∧ l.length ≤ c ∧ c ≤ maxLen := by
  obtain ⟨⟨xs, h1, h2, h3⟩, h4⟩ := h
  rcases h2.form tri_len with ⟨rfl, hl⟩ | ⟨g, c, rfl, _, _, h5, h6, h7⟩
  · have : l.length = 0 := by rw [← h1, hl]; rfl
    exact ⟨none, 0, by rw [this], fun i hi => by omega, by omega, by decide⟩
  · rw [h1] at h5 ⊢
    refine ⟨_, c, rfl, fun i hi => ?_, h5, h6⟩
    obtain ⟨F, cf, h8, h9⟩ := h3 i hi
    obtain ⟨q1, _, q3⟩ := fi_of h9
    have hx : i < xs.length := by omega
    have r0 := h7 i 0 hx (by decide)
    have r1 := h7 i 1 hx (by decide)
    have r2 := h7 i 2 hx (by decide)
    rw [h8] at r0 r1 r2
    rw [Nat.add_zero] at r0
    exact ⟨g, 0, F, cf, rfl, by rw [Nat.zero_add]; exact r0, by rw [Nat.zero_add]; exact r1, by rw [Nat.zero_add]; exact r2, q3, q1⟩
theorem RW.step {w wq w' : World} {k : Nat} {l : List Ent} {v v' : Value} {xs : List (Nat × Nat × Value)} {F : Option Addr} {c : Nat} (hk : k < l.length) (hx : xs.length = k) (ho : OX tri 3 126 wq w.heap.size v xs)
    (hi : ∀ i, i < k → ∃ F c, xs[i]? = some ((l.getD i .z).p, (l.getD i .z).g, .slice F (l.getD i .z).fs.length c) ∧ OX facEnc 2 130 wq w.heap.size (.slice F (l.getD i .z).fs.length c) (l.getD i .z).fs) (hb : Below w.heap.size w wq)
    (hn : OX facEnc 2 130 wq w.heap.size (.slice F (l.getD k .z).fs.length c) (l.getD k .z).fs) (ho' : OX tri 3 126 w' w.heap.size v' (xs ++ [((l.getD k .z).p, (l.getD k .z).g, .slice F (l.getD k .z).fs.length c)])) (hf : Fr (fun i => v.ownBlock = some i) wq w') (hb' : Below w.heap.size wq w') : RW w w' (k + 1) l v' := by
  refine ⟨⟨_, by rw [List.length_append, hx]; rfl, ho', fun i hlt => ?_⟩, hb.trans hb'⟩
  by_cases e : i = k
  · subst e
    refine ⟨F, c, ?_, hn.fr hf (fun g h1 h2 => (ho.apart hn (by decide) h2) h1)⟩
    rw [List.getElem?_append_right (by omega), hx, Nat.sub_self]
    rfl
  · obtain ⟨F', c', h1, h2⟩ := hi i (by omega)
    refine ⟨F', c', ?_, h2.fr hf (fun g h3 h4 => (ho.apart h2 (by decide) h4) h3)⟩
    rw [List.getElem?_append_left (by omega)]
    exact h1
theorem RW.step' {w wq w' : World} {k : Nat} {l : List Ent} {x : Ent} {v v' : Value} {xs : List (Nat × Nat × Value)} {F : Option Addr} {c : Nat} (hxx : l.getD k .z = x) (hk : k < l.length) (hx : xs.length = k) (ho : OX tri 3 126 wq w.heap.size v xs)
    (hi : ∀ i, i < k → ∃ F c, xs[i]? = some ((l.getD i .z).p, (l.getD i .z).g, .slice F (l.getD i .z).fs.length c) ∧ OX facEnc 2 130 wq w.heap.size (.slice F (l.getD i .z).fs.length c) (l.getD i .z).fs) (hb : Below w.heap.size w wq)
    (hn : OX facEnc 2 130 wq w.heap.size (.slice F x.fs.length c) x.fs) (ho' : OX tri 3 126 w' w.heap.size v' (xs ++ [(x.p, x.g, .slice F x.fs.length c)])) (hf : Fr (fun i => v.ownBlock = some i) wq w') (hb' : Below w.heap.size wq w') : RW w w' (k + 1) l v' := by
  subst hxx
  exact RW.step hk hx ho hi hb hn ho' hf hb'
theorem take_snoc {α : Type} (l : List α) (d : α) {i : Nat} (h : i < l.length) : l.take (i + 1) = l.take i ++ [l.getD i d] := by
  rw [List.take_succ_eq_append_getElem h, List.getD_eq_getElem?_getD, List.getElem?_eq_getElem h]
  rfl
set_option maxRecDepth 100000 in
set_option maxHeartbeats 4000000 in
theorem rows_big (A : Option Addr) (c : Nat) (l : List Ent) (w : World) (hl : EI w A l) (h40 : l.length ≤ 40) (h20 : ∀ i, i < l.length → (l.getD i .z).fs.length ≤ 1048576) :
    Calls Tryz.prog 21 #[.slice A l.length c] w fun e w' => ∃ A' c', e = .returned (.slice A' l.length c') ∧ EI w' A' l ∧ l.length ≤ c' ∧ c' ≤ maxLen ∧ Below w.heap.size w w' := by
  have HL := Lib.hid hl
  have H20 := Lib.hid h20
  have R0 := Lib.hid (RW.start w l)
  clear hl h20
  go_enter Tryz.func21, Tryz.ntmps21
  go_wp2_with fail
  go_loopw [3, 11] (fun v i wr => ∃ k : Nat, k ≤ l.length ∧ i = .int .i64 k ∧ Hid (RW w wr k l v)) (fun _ i _ => l.length - (intOf i).toNat)
  case atStart => exact ⟨0, by omega, rfl, R0⟩
  case round =>
    obtain ⟨k, hk, rfl, HR⟩ := hrel
    by_cases hlt : k < l.length
    · obtain ⟨b, o, F, cf, rfl, c1, c2, c3, hfl, hf⟩ := HL.out k hlt
      have k1 := bcell HR.out.below c1
      have k2 := bcell HR.out.below c2
      have k3 := bcell HR.out.below c3
      have HF := Lib.hid (hf.below HR.out.below)
      have hn20 := H20.out k hlt
      have hi0 : (0 : Int) ≤ (k : Int) := by omega
      have hi1 : (k : Int) < (l.length : Int) := by omega
      clear c1 c2 c3 hf hfl
      generalize hxx : l.getD k .z = x at *
      have HXX := Lib.hid hxx
      clear hxx
      have hb1 := (Below.refl wr.heap.size wr).alloc (Nat.le_refl _) (.cells #[.int .u64 x.p, .int .u64 x.g, .slice F x.fs.length cf] 65)
      have R1 := Lib.hid (HR.out.then hb1)
      have F1 := Lib.hid (HF.out.below hb1)
      have K1 := Lib.hid (Blk.new wr 65 #[.int .u64 x.p, .int .u64 x.g, .slice F x.fs.length cf])
      clear hb1
      go_wp2_with fail
      generalize wr.alloc (.cells #[.int .u64 x.p, .int .u64 x.g, .slice F x.fs.length cf] 65) = W1 at *
      generalize wr.heap.size = b5 at *
      clear k1 k2 k3
      have I0 := Lib.hid (OX.nil facEnc 2 130 W1 W1.heap.size)
      go_loopw [6, 18] (fun v j wq => ∃ i : Nat, i ≤ x.fs.length ∧ j = .int .i64 i ∧ Hid (OX facEnc 2 130 wq W1.heap.size v (x.fs.take i)) ∧ Hid (Below W1.heap.size W1 wq)) (fun _ j _ => x.fs.length - (intOf j).toNat)
      case atStart => exact ⟨0, by omega, rfl, I0, Lib.hid (Below.refl _ _)⟩
      case round =>
        obtain ⟨i, hi, rfl, HO, HB⟩ := hrel
        by_cases hil : i < x.fs.length
        · obtain ⟨fb, fo, rfl, d1, d2⟩ := F1.out i hil
          have e1 := bcell HB.out d1
          have e2 := bcell HB.out d2
          have HT := Lib.hid (take_snoc x.fs .z hil)
          have hj0 : (0 : Int) ≤ (i : Int) := by omega
          have hj1 : (i : Int) < (x.fs.length : Int) := by omega
          clear d1 d2
          generalize x.fs.getD i .z = y at *
          have hb2 := (Below.refl wr.heap.size wr).alloc (Nat.le_refl _) (.cells #[.int .u64 y.q, .int .i64 y.e] 129)
          have O2 := Lib.hid (HO.out.alloc (.cells #[.int .u64 y.q, .int .i64 y.e] 129))
          have B2 := Lib.hid (below_then HB.out HB.out.size hb2)
          clear hb2
          have K2 := Lib.hid (Blk.new wr 129 #[.int .u64 y.q, .int .i64 y.e])
          go_upto_region 9 with fail
          generalize wr.alloc (.cells #[.int .u64 y.q, .int .i64 y.e] 129) = W2 at *
          generalize wr.heap.size = b8 at *
          have m0 := K2.out.cell 0
          have m1 := K2.out.cell 1
          go_wp2_with (at_builtin; refine wpList_appendX1 rfl (.tmp 22) (.tmp 24) 124 rfl facEnc 2 W1.heap.size 130 _ 16 Tryz.underlying124 info130 (by decide) rfl (by decide) _ (x.fs.take i) y #[.int .u64 y.q, .int .i64 y.e] rfl rfl rfl O2.out rfl (by intro u hu; simp [facEnc] at hu; rcases hu with rfl | rfl <;> rfl) (by rw [List.length_take]; omega) B2.out.size ?_; intro v' w3 ho hb _; have HO3 := Lib.hid ho; have HB3 := Lib.hid (B2.out.trans hb); clear ho hb)
          have HO4 := Lib.hid (show OX facEnc 2 130 w3 W1.heap.size v' (x.fs.take (i + 1)) from by rw [HT.out]; exact HO3.out)
          clear m0 m1 HO3 HT
          go_wp2_with fail
          go_roundw
          case rel => exact ⟨i + 1, by omega, by go_num, HO4, HB3⟩
          case measure => simp [intOf]; omega
        · have hii : i = x.fs.length := by omega
          subst hii
          have ho := HO.out
          rw [List.take_length] at ho
          have R6 := R1.out.then HB.out
          have HN := Lib.hid (OX.mono ho R1.out.below.size)
          have hform : ∃ F' c', u6 = .slice F' x.fs.length c' := by
            rcases ho.form facEnc_len with ⟨e, hl⟩ | ⟨g, c', e, _⟩
            · exact ⟨none, 0, by rw [e, hl]; rfl⟩
            · exact ⟨_, c', e⟩
          clear ho
          obtain ⟨F', c', rfl⟩ := hform
          obtain ⟨⟨xs, hx, hox, hin⟩, hbl⟩ := R6
          have hxl : xs.length + 1 ≤ 17592186044 := by omega
          have HOX := Lib.hid hox
          have HST := Lib.hid fun (v' : Value) (w' : World) (h1 : OX tri 3 126 w' w.heap.size v' (xs ++ [(x.p, x.g, .slice F' x.fs.length c')])) (h2 : Fr (fun i => u3.ownBlock = some i) wr w') (h3 : Below w.heap.size wr w') => RW.step' HXX.out hlt hx hox hin hbl HN.out h1 h2 h3
          have hsz : w.heap.size ≤ wr.heap.size := hbl.size
          have K6 := Lib.hid (K1.out.below HB.out K1.out.lt)
          have m0 := K6.out.cell 0
          have m1 := K6.out.cell 1
          clear hx hox hin hbl
          go_wp2_with (at_builtin; refine wpList_appendXg rfl (.tmp 27) (.tmp 34) 68 rfl tri 3 w.heap.size 126 _ 40 Tryz.underlying68 info126 (by decide) rfl (by decide) _ xs (x.p, x.g, .slice F' x.fs.length c') #[.int .u64 x.p, .int .u64 x.g, .slice F' x.fs.length c'] rfl rfl rfl HOX.out rfl (by intro u hu; simp [tri] at hu; rcases hu with rfl | rfl | rfl <;> rfl) hxl hsz ?_; intro v' w4 ho' hf' hb'; have HR2 := Lib.hid (HST.out v' w4 ho' hf' hb'); clear ho' hf' hb')
          clear m0 m1
          go_wp2_with fail
          go_roundw
          case rel => exact ⟨k + 1, by omega, by go_num, HR2⟩
          case measure => simp [intOf]; omega
    · have hkk : k = l.length := by omega
      subst hkk
      obtain ⟨A', c', rfl, he, h1, h2⟩ := HR.out.done
      have HE := Lib.hid he
      clear he
      go_wp2_with fail
      go_ret
      exact ⟨A', c', rfl, HE.out, h1, h2, HR.out.below⟩
theorem rows_any (A : Option Addr) (c : Nat) (l : List Ent) (w : World) (hl : EI w A l) (h40 : l.length ≤ 40) (h20 : ∀ i, i < l.length → (l.getD i .z).fs.length ≤ 20) :
    Calls Tryz.prog 21 #[.slice A l.length c] w fun e w' => ∃ A' c', e = .returned (.slice A' l.length c') ∧ EI w' A' l ∧ l.length ≤ c' ∧ c' ≤ maxLen ∧ Below w.heap.size w w' := rows_big A c l w hl h40 (fun i hi => Nat.le_trans (h20 i hi) (by decide))
end Go.Proofs.YtpkpadepccneeaaGreatDoor
