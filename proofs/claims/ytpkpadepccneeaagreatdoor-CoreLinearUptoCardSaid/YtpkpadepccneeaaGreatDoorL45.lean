/- The walks of sieve.Row and field.Small at any number: a right row at each odd prime up to 65536, an error else. No condition. -/
import Derived.Test.YtpkpadepccneeaaGreatDoorL44
import Derived.Test.YtpkpadepccneeaaGreatDoorL14
import Derived.Test.YtpkpadepccneeaaGreatDoorL32
import Derived.Test.YtpkpadepccneeaaGreatDoorL33
import Derived.Test.YtpkpadepccneeaaGreatDoorL09
import Derived.Test.YtpkpadepccneeaaGreatDoorL40
import Derived.Test.YtpkpadepccneeaaGreatDoorL07
import Derived.Test.YtpkpadepccneeaaGreatDoorL41
namespace Go.Proofs.YtpkpadepccneeaaGreatDoor
open Go.RowKit Go.Maps
set_option linter.unusedVariables false
set_option linter.unusedSimpArgs false
/-- An entry, and where its factors lie. -/
abbrev EntF := Ent × Option Addr × Nat
def EntF.z : EntF := (.z, none, 0)
def EntF.tri (x : EntF) : Nat × Nat × Value := (x.1.p, x.1.g, .slice x.2.1 x.1.fs.length x.2.2)
/-- As far as the row is put together. -/
structure RL (w wr : World) (v : Value) (es : List EntF) (k : Nat) : Prop where
  row : OX tri 3 126 wr w.heap.size v ((es.take k).map EntF.tri)
  bl : Below w.heap.size w wr
theorem RL.step {w wr w' : World} {v v' : Value} {es : List EntF} {k : Nat} (h : RL w wr v es k) (hk : k < es.length) (ho : OX tri 3 126 w' w.heap.size v' ((es.take k).map EntF.tri ++ [(es.getD k .z).tri])) (hb : Below w.heap.size wr w') : RL w w' v' es (k + 1) :=
  ⟨by rw [take_snoc es .z hk, List.map_append]; exact ho, h.bl.trans hb⟩
def ents (es : List EntF) : List Ent := es.map fun x => x.1
theorem ents_len (es : List EntF) : (ents es).length = es.length := List.length_map ..
theorem map_getD_fst (es : List EntF) (i : Nat) : (ents es).getD i .z = (es.getD i .z).1 := by
  unfold ents
  rw [List.getD_eq_getElem?_getD, List.getD_eq_getElem?_getD, List.getElem?_map]
  cases es[i]? <;> rfl
theorem RL.done {w wr : World} {v : Value} {es : List EntF} (h : RL w wr v es es.length) (hf : ∀ i, i < es.length → (es.getD i .z).1.fs.length ≤ (es.getD i .z).2.2 ∧ FI w (es.getD i .z).2.1 (es.getD i .z).1.fs) :
    ∃ A c, v = .slice A (ents es).length c ∧ EI wr A (ents es) ∧ (ents es).length ≤ c ∧ c ≤ maxLen := by
  have ho := h.row
  rw [List.take_length] at ho
  have hl : (es.map EntF.tri).length = (ents es).length := by rw [ents_len, List.length_map]
  rcases ho.form tri_len with ⟨h0, h1⟩ | ⟨g, c, h1, h2, h3, h4, h5, h6⟩
  · have : es = [] := by simpa using h1
    subst this
    exact ⟨none, 0, h0, fun i hi => absurd hi (by simp [ents]), by simp [ents], by simp [maxLen]⟩
  · rw [hl] at h1 h4 h6
    refine ⟨_, c, h1, fun i hi => ?_, h4, h5⟩
    have hi' : i < es.length := by rw [ents_len] at hi; exact hi
    obtain ⟨f1, f2⟩ := hf i hi'
    have hg : (es.map EntF.tri)[i]? = some (es.getD i .z).tri := by
      rw [List.getElem?_map, List.getD_eq_getElem?_getD, List.getElem?_eq_getElem hi']; rfl
    have c0 := h6 i 0 hi (by decide)
    have c1 := h6 i 1 hi (by decide)
    have c2 := h6 i 2 hi (by decide)
    rw [hg] at c0 c1 c2
    rw [map_getD_fst]
    exact ⟨g, 0, (es.getD i .z).2.1, (es.getD i .z).2.2, rfl, by rw [Nat.zero_add]; exact c0, by rw [Nat.zero_add]; exact c1, by rw [Nat.zero_add]; exact c2, f1, f2.below h.bl⟩
/-- What the row is. -/
theorem row_says {K ys : List Nat} {p : Nat} (es : List EntF) (hl : es.length = ys.length) (hE : ∀ i, i < ys.length → (es.getD i .z).1.p = ys.getD i 0 ∧ EntG (es.getD i .z).1)
    (hmem : ∀ x, x ∈ ys ↔ x ∈ K) (hup : ∀ i j, i < j → j < ys.length → ys.getD i 0 < ys.getD j 0) (hlen : ys.length ≤ 12) (hx : Ext [] K) (hp : p ∈ K) :
    checkS (ents es) = (0, 0) ∧ (∃ j : Nat, indexOf (ents es) p 0 = (j : Int)) ∧ Oks (ents es) := by
  have hll : (ents es).length = ys.length := by rw [ents_len, hl]
  have hfind : ∀ q, q ∈ K → ∃ j, j < (ents es).length ∧ ((ents es).getD j .z).p = q := fun q hq => by
    obtain ⟨j, hj, he⟩ := List.getElem_of_mem ((hmem q).2 hq)
    refine ⟨j, by rw [hll]; exact hj, ?_⟩
    rw [map_getD_fst, (hE j hj).1, List.getD_eq_getElem?_getD, List.getElem?_eq_getElem hj]
    exact he
  have hG : ∀ i, i < (ents es).length → EntG ((ents es).getD i .z) := fun i hi => by
    rw [map_getD_fst]; exact (hE i (by omega)).2
  refine ⟨row_ok _ hG (fun i j h1 h2 => ?_) (fun i hi f hf hq => ?_) (by omega), ?_, ?_⟩
  · rw [map_getD_fst, map_getD_fst, (hE i (by omega)).1, (hE j (by omega)).1]
    exact hup i j h1 (by omega)
  · have hg := hG i hi
    rw [hg.fs] at hf
    have hpi : ((ents es).getD i .z).p ∈ K := by
      rw [map_getD_fst, (hE i (by omega)).1]
      exact (hmem _).1 (getD_mem ys 0 (by omega))
    exact hfind _ (hx.new _ hpi (by simp) f hf hq)
  · obtain ⟨j, hj, he⟩ := hfind p hp
    have := (indexOf_nonneg (ents es) p 0).2 ⟨j, Nat.zero_le _, hj, he⟩
    exact ⟨(indexOf (ents es) p 0).toNat, by omega⟩
  · refine ⟨fun i hi => ?_, fun i hi f hf => ?_, fun i hi => ?_⟩
    · have hg := hG i hi
      have := hg.high
      have := hg.gp
      simp only [Mg.R]; omega
    · have hg := hG i hi
      rw [hg.fs] at hf
      have h1 := hg.low
      have h2 := hg.high
      have hs := facsN_spec (n := ((ents es).getD i .z).p - 1) (by omega) (by omega)
      have := Nat.le_of_dvd (by omega) (hs.dvd hf)
      simp only [Mg.R]; omega
    · have hg := hG i hi
      rw [hg.fs]
      have h1 := hg.low
      have h2 := hg.high
      have := facsN_len (n := ((ents es).getD i .z).p - 1) (by omega) (by omega)
      omega
theorem GM.none (w : World) (b : Nat) : GM w b (.map []) [] := ⟨isMap_empty, fun x => rfl, fun x hx => by cases hx⟩
set_option maxRecDepth 100000 in
set_option maxHeartbeats 4000000 in
theorem Row_any (p : Nat) (hp : Nt.Prime p) (h2 : 2 < p) (hb : p ≤ 65536) (w : World) : Calls Tryz.prog 70 #[.int .u64 p] w fun e w' => ∃ A c l, e = .returned (.tuple #[.slice A (List.length l) c, .int .i64 0]) ∧ EI w' A l ∧ l.length ≤ c ∧ c ≤ maxLen ∧ checkS l = (0, 0) ∧ (∃ j : Nat, indexOf l p 0 = (j : Int)) ∧ Oks l ∧ Below w.heap.size w w' := by
  have hmm := @run_makeMap Tryz.prog
  have HO := Lib.hid (show oddP p = true by unfold oddP; rw [decide_eq_true h2, decide_eq_true hb, primeB_yes hp]; rfl)
  have CO := Lib.hid (sOdd_any p w)
  rw [HO.out] at CO
  have htc := tc_le hp h2 hb
  have CG := Lib.hid fun b D W (a : SM W b 0 D) (c : GM W b D []) => gather_any 16 p b [] D W (.inr ⟨hp, h2⟩) hb hb a c (by simp; omega)
  clear hp hb
  go_enter Tryz.func70, Tryz.ntmps70
  go_wp2_with fail
  with_reducible refine (CO.out).mono ?_
  rintro e w1 ⟨rfl, hb1⟩
  have M1 := Lib.hid (show SM (w1.alloc (.map #[] 0)) w1.heap.size 0 (.map []) from World.ownsMap_made w1 Tryz.prog 22 tok)
  have F1 := Lib.hid ((hb1).alloc hb1.size (.map #[] 0))
  have S1 := hb1.size
  clear hb1
  go_wp2_with fail
  with_reducible refine ((CG.out w1.heap.size _ _ M1.out (GM.none _ _))).mono ?_
  rintro e w2 ⟨rfl, hgp⟩
  obtain ⟨D, K, hsm, hgm, hext, hpk, hlen, hfr⟩ := hgp
  have M2 := Lib.hid hsm
  have G2 := Lib.hid hgm
  have F2 := Lib.hid (F1.out.trans (hfr.to_below (B := w.heap.size) (by simp; omega) (fun i hi e => by omega)))
  have X2 := Lib.hid hext
  have hpk : p ∈ K := by
    rcases hpk with h | h
    · omega
    · exact h
  have hKl : K.length ≤ 12 := by simp at hlen; omega
  have HPK := Lib.hid hpk
  clear hsm hgm hfr hext hpk hlen F1 M1 hmm CG htc
  generalize w1.heap.size = b at *
  go_wp2_with fail
  with_reducible refine ((Keys_any b w2)).mono ?_
  rintro e w3 ⟨rfl, rfl⟩
  have hb3 := (Below.refl w2.heap.size w2).alloc (Nat.le_refl _) (.cells #[.map (some b)] 206)
  have M3 := Lib.hid (show SM (w2.alloc (.cells #[.map (some b)] 206)) b K.length D from World.ownsMap.alloc M2.out _)
  have G3 := Lib.hid (G2.out.fr (.of_below _ hb3))
  have F3 := Lib.hid (below_then F2.out F2.out.size hb3)
  have X3 := Lib.hid (show (w2.alloc (.cells #[.map (some b)] 206)).heap[w2.heap.size]? = some (.cells #[.map (some b)] 206 (0, 0)) from Blk.new w2 206 #[.map (some b)])
  clear hb3
  go_wp2_with fail
  with_reducible refine ((Sorted_any w2.heap.size b p K D (w2.alloc (.cells #[.map (some b)] 206)) M3.out G3.out.keys hKl HPK.out X3.out)).mono ?_
  rintro e w4 ⟨gs, cs, ys, rfl, hsk⟩
  have F4 := Lib.hid (below_then F3.out F3.out.size hsk.bl)
  have M4 := Lib.hid (show SM w4 b K.length D from (Fr.of_below (fun _ => False) hsk.bl).map M3.out (fun h => h))
  have G4 := Lib.hid (G3.out.fr (.of_below _ hsk.bl))
  have hyl := hsk.len
  have HSK := Lib.hid hsk
  obtain ⟨es, hel, hE⟩ := list_of EntF.z (fun i (x : EntF) => x.1.p = ys.getD i 0 ∧ EntM w4 b D (ys.getD i 0) x.1.g x.2.1 x.2.2 ∧ x.1.fs = facsN (ys.getD i 0 - 1)) ys.length (fun i hi => by
    obtain ⟨g, F, c, h⟩ := G4.out.ent (ys.getD i 0) ((hsk.mem _).1 (getD_mem ys 0 hi))
    exact ⟨(⟨ys.getD i 0, g, facsN (ys.getD i 0 - 1)⟩, F, c), rfl, h, rfl⟩)
  have HE := Lib.hid hE
  have HEL := Lib.hid hel
  have R0 := Lib.hid (show RL w4 w4 (.slice none 0 0) es 0 from ⟨OX.nil _ _ _ _ _, Below.refl _ _⟩)
  clear hsk hE hel M3 G3 X3 M2 G2 F3 F2 S1 HO
  go_wp2_with fail
  go_loopw [5, 19] (fun v i wr => ∃ k : Nat, k ≤ ys.length ∧ i = .int .i64 k ∧ Hid (RL w4 wr v es k)) (fun _ i _ => ys.length - (intOf i).toNat)
  case atStart => exact ⟨0, by omega, rfl, R0⟩
  case round =>
    clear R0
    obtain ⟨k, hk, rfl, HR⟩ := hrel
    by_cases hlt : k < ys.length
    · have c0 := bcell HR.out.bl (HSK.out.at_ k hlt)
      obtain ⟨e1, e2, e3⟩ := HE.out k hlt
      have hy : ys.getD k 0 ≤ 65536 := e2.ok.high
      have M5 := Lib.hid (show SM wr b K.length D from (Fr.of_below (fun _ => False) HR.out.bl).map M4.out (fun h => h))
      obtain ⟨v, ps, hrun, hv⟩ := World.ownsMap.lookup (key := .int .u64 ((ys.getD k 0 : Nat) : Int)) (kl := kx (ys.getD k 0)) M5.out key22 Tryz.underlying206 (zero126 wr) (zd := .held (.agg #[.int .u64 0, .int .u64 0, .slice none 0 0])) (zp := []) rfl (keyOf_int_mk Tryz.underlying22 (kx_wf hy))
      rw [e2.at_] at hv
      obtain rfl := tok_eq hv
      unfold entV at hrun
      have HTR := Lib.hid (show EntF.tri (es.getD k .z) = (ys.getD k 0, (es.getD k .z).1.g, Value.slice (es.getD k .z).2.1 (facsN (ys.getD k 0 - 1)).length (es.getD k .z).2.2) by
        unfold EntF.tri
        rw [e1, e3])
      have HST := Lib.hid fun (v' : Value) (w' : World) (h1 : OX tri 3 126 w' w4.heap.size v' ((es.take k).map EntF.tri ++ [(es.getD k .z).tri])) (h2 : Below w4.heap.size wr w') => HR.out.step (by rw [HEL.out]; exact hlt) h1 h2
      have HOX := Lib.hid HR.out.row
      have hxl : ((es.take k).map EntF.tri).length + 1 ≤ 17592186044 := by
        rw [List.length_map, List.length_take]; omega
      have hsz := HR.out.bl.size
      have hi0 : (0 : Int) ≤ (k : Int) := by omega
      have hi1 : (k : Int) < (ys.length : Int) := by omega
      clear e1 e2 e3 hv hy HR
      generalize (facsN (ys.getD k 0 - 1)).length = nf at *
      generalize (es.getD k .z).1.g = g at *
      generalize (es.getD k .z).2.1 = F at *
      generalize (es.getD k .z).2.2 = c at *
      generalize ys.getD k 0 = y at *
      generalize ys.length = n at *
      go_wp2_with (at_builtin; refine wpList_appendX1 rfl (.tmp 23) (.tmp 27) 68 rfl tri 3 w4.heap.size 126 _ 40 Tryz.underlying68 info126 (by decide) rfl (by decide) _ ((es.take k).map EntF.tri) (y, g, Value.slice F nf c) _ rfl rfl rfl HOX.out rfl (by intro u hu; simp [tri] at hu; rcases hu with rfl | rfl | rfl <;> rfl) hxl hsz ?_; intro v' w5 ho' hb' _; have HR2 := Lib.hid (HST.out v' w5 (by rw [HTR.out]; exact ho') hb'); clear ho' hb')
      go_roundw
      case rel => exact ⟨k + 1, by omega, by go_num, HR2⟩
      case measure => simp [intOf]; omega
    · have hkk : k = es.length := by rw [HEL.out]; omega
      obtain ⟨A, c, rfl, h1, h2, h3⟩ := RL.done (by rw [← hkk]; exact HR.out) (fun i hi => by
        obtain ⟨e1, e2, e3⟩ := HE.out i (by rw [← HEL.out]; exact hi)
        rw [e3]
        exact ⟨e2.le, e2.fi⟩)
      obtain ⟨a1, a2, a3⟩ := row_says es HEL.out (fun i hi => by
        obtain ⟨e1, e2, e3⟩ := HE.out i hi
        refine ⟨e1, ?_⟩
        have hx : (es.getD i .z).1 = ⟨ys.getD i 0, (es.getD i .z).1.g, facsN (ys.getD i 0 - 1)⟩ := by
          rw [← e1]
          cases h : (es.getD i .z).1 with
          | mk a b c =>
            rw [h] at e1 e3
            simp at e1 e3
            subst e1
            rw [e3]
        rw [hx]
        exact e2.ok) HSK.out.mem HSK.out.up HSK.out.len X2.out HPK.out
      have H1 := Lib.hid h1
      have A1 := Lib.hid a1
      have A2 := Lib.hid a2
      have A3 := Lib.hid a3
      have HBL := Lib.hid (below_then F4.out F4.out.size HR.out.bl)
      clear h1 a1 a2 a3
      go_wp2_with fail
      go_ret2
      exact ⟨A, c, ents es, rfl, H1.out, h2, h3, A1.out, A2.out, A3.out, HBL.out⟩
end Go.Proofs.YtpkpadepccneeaaGreatDoor

/- The walks of sieve.Row and field.Small: the field at each odd prime up to 65536, an error else. No condition. -/
namespace Go.Proofs.YtpkpadepccneeaaGreatDoor
open Go.RowKit
set_option linter.unusedVariables false
set_option linter.unusedSimpArgs false
theorem Row_bad (p : Nat) (h : oddP p = false) (w : World) : Calls Tryz.prog 70 #[.int .u64 p] w fun e w' => e = .returned (.tuple #[.slice none 0 0, .int .i64 1]) ∧ Below w.heap.size w w' := by
  have CO := Lib.hid (sOdd_any p w)
  rw [h] at CO
  clear h
  go_enter Tryz.func70, Tryz.ntmps70
  go_wp2_with fail
  with_reducible refine (CO.out).mono ?_
  rintro e w1 ⟨rfl, hb1⟩
  have B1 := Lib.hid hb1
  clear hb1
  go_wp2_with fail
  go_ret2
  exact ⟨rfl, B1.out⟩
theorem Small_bad (p : Nat) (h : oddP p = false) (w : World) : Calls Tryz.prog 33 #[.int .u64 p] w fun e w' => e = .returned (.tuple #[.pointer none, .int .i64 1]) ∧ Below w.heap.size w w' := by
  have C := Lib.hid (Row_bad p h w)
  clear h
  go_enter Tryz.func33, Tryz.ntmps33
  go_wp2_with fail
  with_reducible refine (C.out).mono ?_
  rintro e w1 ⟨rfl, hb1⟩
  have B1 := Lib.hid hb1
  clear hb1 C
  go_wp2_with fail
  go_ret2
  exact ⟨rfl, B1.out⟩
/-- A field of a prime: its number's powers are all. -/
structure FG (w : World) (gf p g : Nat) : Prop where
  fd : FD w gf p g
  prime : Nt.Prime p
  order : ∀ k, g ^ k % p = 1 ↔ (p - 1) ∣ k
  gp : g < p
theorem FG.below {w w1 : World} {gf p g : Nat} (h : FG w gf p g) (hb : Below w.heap.size w w1) : FG w1 gf p g := ⟨h.fd.below hb, h.prime, h.order, h.gp⟩
/-- What New answers of a row that is right. -/
theorem New_yes (A : Option Addr) (cA : Nat) (l : List Ent) (q j : Nat) (w : World) (hl : EI w A l) (hcA : l.length ≤ cA) (hcm : cA ≤ maxLen) (ho : Oks l) (hck : checkS l = (0, 0)) (hj : indexOf l q 0 = (j : Int)) :
    Calls Tryz.prog 22 #[.slice A l.length cA, .int .u64 q] w fun e w' => ∃ gf g, e = .returned (.tuple #[.pointer (some ⟨gf, 0, none⟩), .int .i64 0]) ∧ FG w' gf q g ∧ Below w.heap.size w w' :=
  (New_ok A cA l q j w hl hcA hcm ho hck hj).mono fun e w' ⟨gf, he, hf, hb⟩ => by
    obtain ⟨hjl, hpj⟩ := indexOf_spec l q _ 0 j rfl hj
    have es := row_right l (checkS_none hck).1 j hjl
    have e1 := es.prime
    have e2 := es.order
    have e3 := es.gp
    rw [hpj] at e1 e2 e3
    exact ⟨gf, _, he, ⟨hf.fd, e1, e2, e3⟩, hb⟩
set_option maxHeartbeats 1000000 in
theorem Small_any (p : Nat) (hp : Nt.Prime p) (h2 : 2 < p) (hb : p ≤ 65536) (w : World) : Calls Tryz.prog 33 #[.int .u64 p] w fun e w' => ∃ gf g, e = .returned (.tuple #[.pointer (some ⟨gf, 0, none⟩), .int .i64 0]) ∧ FG w' gf p g ∧ Below w.heap.size w w' := by
  have C := Lib.hid (Row_any p hp h2 hb w)
  clear hp h2 hb
  go_enter Tryz.func33, Tryz.ntmps33
  go_wp2_with fail
  with_reducible refine (C.out).mono ?_
  rintro e w1 ⟨A, c, l, rfl, hE, hc1, hc2, hck, ⟨j, hj⟩, hO, hb1⟩
  have B1 := Lib.hid hb1
  have CN := Lib.hid (New_yes A c l p j w1 hE hc1 hc2 hO hck hj)
  clear hE hc1 hc2 hck hj hO hb1 C
  go_wp2_with fail
  with_reducible refine (CN.out).mono ?_
  rintro e w2 ⟨gf, g, rfl, hf, hb2⟩
  have B2 := Lib.hid (below_then B1.out B1.out.size hb2)
  have F2 := Lib.hid hf
  clear hf hb2
  go_wp2_with fail
  go_ret2
  exact ⟨gf, g, rfl, F2.out, B2.out⟩
end Go.Proofs.YtpkpadepccneeaaGreatDoor

/- The walks of the reference's Generator (that it ends), Claimed and Product. No condition. -/
namespace Go.Proofs.YtpkpadepccneeaaGreatDoor
open Go.RowKit
set_option linter.unusedVariables false
set_option linter.unusedSimpArgs false
set_option maxHeartbeats 1000000 in
theorem rGen_any (p : Nat) (ho : oddP p = true) (hp : Nt.Prime p) (h2 : 2 < p) (hb : p ≤ 65536) (w : World) : Calls Tryz.prog 68 #[.int .u64 p] w fun e w' => (∃ g : Nat, e = .returned (.int .u64 g)) ∧ w = w' := by
  have CO := Lib.hid (rOdd_any p w)
  rw [ho] at CO
  have CR := Lib.hid fun (g : Nat) (h : 0 < g) (h2 : g < p) => rOrder_any g p hp hb h h2 w
  have s1 : IntKind.u64.wrap ((p : Int) - 1) = ((p - 1 : Nat) : Int) := by
    rw [show (p : Int) - 1 = ((p - 1 : Nat) : Int) by omega]
    exact w_small (Int.natCast_nonneg _) (by omega)
  clear ho hp
  go_enter Tryz.func68, Tryz.ntmps68
  go_wp2_with fail
  with_reducible refine (CO.out).mono ?_
  rintro e w1 ⟨rfl, rfl⟩
  clear CO
  go_wp2_with fail
  go_loopw [3] (fun v wr => ∃ g : Nat, v = .int .u64 g ∧ 2 ≤ g ∧ g ≤ p ∧ w = wr) (fun v _ => p - (intOf v).toNat)
  case atStart => exact ⟨2, rfl, by omega, by omega, by first | rfl | trivial⟩
  case round =>
    obtain ⟨g, rfl, hg2, hgp, hw⟩ := hrel
    subst hw
    by_cases hlt : g < p
    · have C := Lib.hid (CR.out g (by omega) hlt)
      have q1 : decide ((g : Int) < (p : Int)) = true := decide_eq_true (by omega)
      have q1' : decide (g < p) = true := decide_eq_true hlt
      have s3 : IntKind.u64.wrap ((g : Int) + 1) = ((g + 1 : Nat) : Int) := by
        rw [show (g : Int) + 1 = ((g + 1 : Nat) : Int) by omega]
        exact w_small (Int.natCast_nonneg _) (by omega)
      go_wp2_with fail
      with_reducible refine (C.out).mono ?_
      rintro e w1 ⟨⟨m, rfl⟩, rfl⟩
      by_cases hm : m = p - 1
      · have q2 : ((m : Int) == ((p - 1 : Nat) : Int)) = true := by rw [hm]; exact beq_iff_eq.2 rfl
        generalize p - 1 = p1 at *
        clear hm
        go_wp2_with fail
        go_ret
        exact ⟨⟨g, rfl⟩, rfl⟩
      · have q2 : ((m : Int) == ((p - 1 : Nat) : Int)) = false := beq_eq_false_iff_ne.2 (by omega)
        have q2' : (m == p - 1) = false := beq_eq_false_iff_ne.2 hm
        generalize p - 1 = p1 at *
        clear hm
        go_wp2_with fail
        go_roundw
        case rel => exact ⟨g + 1, rfl, by omega, by omega, by first | rfl | trivial⟩
        case measure => simp [intOf]; omega
    · have q1 : decide ((g : Int) < (p : Int)) = false := decide_eq_false (by omega)
      have q1' : decide (g < p) = false := decide_eq_false hlt
      go_wp2_with fail
      go_ret
      exact ⟨⟨0, rfl⟩, rfl⟩
theorem rClaimed_any (A : Option Addr) (c : Nat) (l : List Ent) (q : Nat) (w : World) (hl : EI w A l) (hm : l.length ≤ 1000) :
    Calls Tryz.prog 175 #[.slice A l.length c, .int .u64 q] w fun e w' => e = .returned (.bool (claimed l q)) ∧ Below w.heap.size w w' := by
  have HL := Lib.hid hl
  have HY := Lib.hid fun (k : Nat) (h : k < l.length) (he : (l.getD k .z).p = q) => (show claimed l q = true from (claimed_iff l q).2 ⟨k, h, he⟩)
  have HN := Lib.hid fun (h : ∀ k, k < l.length → (l.getD k .z).p ≠ q) => (show claimed l q = false from by
    cases hc : claimed l q with
    | false => rfl
    | true => obtain ⟨j, h1, h2⟩ := (claimed_iff l q).1 hc; exact absurd h2 (h j h1))
  clear hl
  generalize claimed l q = res at *
  go_enter Tryz.func175, Tryz.ntmps175
  go_wp2_with fail
  go_loopw [9] (fun i wr => ∃ k : Nat, k ≤ l.length ∧ i = .int .i64 k ∧ Hid (∀ j, j < k → (l.getD j .z).p ≠ q) ∧ Hid (Below w.heap.size w wr)) (fun i _ => l.length - (intOf i).toNat)
  case atStart => exact ⟨0, by omega, rfl, Lib.hid (fun j hj => by omega), Lib.hid (Below.refl _ _)⟩
  case round =>
    obtain ⟨k, hk, rfl, HI, HB⟩ := hrel
    by_cases hlt : k < l.length
    · obtain ⟨b, o, F, cf, rfl, c1, c2, c3, hfl, hf⟩ := HL.out k hlt
      have k1 := bcell HB.out c1
      have k2 := bcell HB.out c2
      have k3 := bcell HB.out c3
      have HB1 := Lib.hid (below_then HB.out HB.out.size ((Below.refl wr.heap.size wr).alloc (Nat.le_refl _) (.cells #[.int .u64 (l.getD k .z).p, .int .u64 (l.getD k .z).g, .slice F (l.getD k .z).fs.length cf] 65)))
      have hi0 : (0 : Int) ≤ (k : Int) := by omega
      have hi1 : (k : Int) < (l.length : Int) := by omega
      clear c1 c2 c3 hfl hf
      by_cases hpq : (l.getD k .z).p = q
      · have HR := Lib.hid (HY.out k hlt hpq)
        rw [hpq] at k1 HB1
        clear hpq
        generalize (l.getD k .z).fs.length = nf at *
        generalize (l.getD k .z).g = g at *
        go_wp2_with fail
        go_ret
        exact ⟨by rw [HR.out]; rfl, HB1.out⟩
      · have HI2 := Lib.hid (show ∀ j, j < k + 1 → (l.getD j .z).p ≠ q from fun j hj => by
          by_cases e : j = k
          · subst e; exact hpq
          · exact HI.out j (by omega))
        have g1 : (((l.getD k .z).p : Int) == (q : Int)) = false := beq_eq_false_iff_ne.2 (by omega)
        have g1' : ((l.getD k .z).p == q) = false := beq_eq_false_iff_ne.2 hpq
        clear hpq
        generalize (l.getD k .z).fs.length = nf at *
        generalize (l.getD k .z).g = g at *
        generalize (l.getD k .z).p = p at *
        go_wp2_with fail
        go_roundw
        case rel => exact ⟨k + 1, by omega, by go_num, HI2, HB1⟩
        case measure => simp [intOf]; omega
    · have hkk : k = l.length := by omega
      subst hkk
      have HR := Lib.hid (HN.out HI.out)
      go_wp2_with fail
      go_ret
      exact ⟨by rw [HR.out]; rfl, HB.out⟩
end Go.Proofs.YtpkpadepccneeaaGreatDoor

/- The walk of the reference's Product: if it answers yes, the factors' exponents and numbers are within bounds, and the number is their product. No condition. -/
namespace Go.Proofs.YtpkpadepccneeaaGreatDoor
open Go.RowKit
set_option linter.unusedVariables false
set_option linter.unusedSimpArgs false
/-- As far as the product has come. -/
structure ProdOk (fs : List Fac) (k n : Nat) : Prop where
  ok : ∀ j, j < k → 1 ≤ (fs.getD j .z).e ∧ (fs.getD j .z).e ≤ 62 ∧ 2 ≤ (fs.getD j .z).q
  val : n = Nt.prodOf (facs (fs.take k))
theorem prodOf_snoc : ∀ (l : List Fac) (f : Fac), Nt.prodOf (facs (l ++ [f])) = Nt.prodOf (facs l) * f.q ^ f.e.toNat
  | [], f => by show f.q ^ f.e.toNat * 1 = 1 * f.q ^ f.e.toNat; rw [Nat.mul_one, Nat.one_mul]
  | x :: r, f => by
    show x.q ^ x.e.toNat * Nt.prodOf (facs (r ++ [f])) = x.q ^ x.e.toNat * Nt.prodOf (facs r) * f.q ^ f.e.toNat
    rw [prodOf_snoc r f, Nat.mul_assoc]
theorem take_snocF (l : List Fac) {i : Nat} (h : i < l.length) : l.take (i + 1) = l.take i ++ [l.getD i .z] := by
  rw [List.take_succ_eq_append_getElem h, List.getD_eq_getElem?_getD, List.getElem?_eq_getElem h]
  rfl
theorem ProdOk.start (fs : List Fac) : ProdOk fs 0 1 := ⟨fun j hj => by omega, by rw [List.take_zero]; rfl⟩
theorem ProdOk.step {fs : List Fac} {k n n' : Nat} (h : ProdOk fs k n) (hk : k < fs.length) (h1 : 1 ≤ (fs.getD k .z).e) (h2 : (fs.getD k .z).e ≤ 62) (h3 : 2 ≤ (fs.getD k .z).q) (hn : n' = n * (fs.getD k .z).q ^ (fs.getD k .z).e.toNat) : ProdOk fs (k + 1) n' :=
  ⟨fun j hj => by
    by_cases e : j = k
    · subst e; exact ⟨h1, h2, h3⟩
    · exact h.ok j (by omega), by rw [take_snocF fs hk, prodOf_snoc, ← h.val, hn]⟩
def ProdPost (fs : List Fac) (w : World) (e : Ending) (w' : World) : Prop :=
  ∃ (n : Nat) (ok : Bool), e = .returned (.tuple #[.int .u64 n, .bool ok]) ∧ (ok = true → ProdOk fs fs.length n) ∧ Below w.heap.size w w'
theorem ProdPost.no (fs : List Fac) {w w' : World} (h : Below w.heap.size w w') : ProdPost fs w (.returned (.tuple #[.int .u64 0, .bool false])) w' := ⟨0, false, rfl, fun h => (by cases h), h⟩
set_option maxRecDepth 100000 in
set_option maxHeartbeats 4000000 in
theorem rProduct_any (F : Option Addr) (c most : Nat) (fs : List Fac) (w : World) (hf : FI w F fs) (hl : fs.length ≤ 16) (hmost : most < Mg.R) (hq : ∀ f ∈ fs, f.q < Mg.R) :
    Calls Tryz.prog 176 #[.slice F fs.length c, .int .u64 most] w fun e w' => ProdPost fs w e w' := by
  have HF := Lib.hid hf
  have HQ := Lib.hid hq
  have P0 := Lib.hid (ProdOk.start fs)
  clear hf hq
  go_enter Tryz.func176, Tryz.ntmps176
  go_wp2_with fail
  go_loopw [6, 12] (fun nv i wr => ∃ k n : Nat, k ≤ fs.length ∧ i = .int .i64 k ∧ nv = .int .u64 n ∧ n < Mg.R ∧ Hid (ProdOk fs k n) ∧ Hid (Below w.heap.size w wr)) (fun _ i _ => fs.length - (intOf i).toNat)
  case atStart => exact ⟨0, 1, by omega, rfl, rfl, by decide, P0, Lib.hid (Below.refl _ _)⟩
  case round =>
    clear P0
    obtain ⟨k, n, hk, rfl, rfl, hnR, HP, HB⟩ := hrel
    by_cases hlt : k < fs.length
    · obtain ⟨b, o, rfl, c0, c1⟩ := HF.out k hlt
      have k0 := bcell HB.out c0
      have k1 := bcell HB.out c1
      have hqR := HQ.out _ (getD_mem fs .z hlt)
      have HST := Lib.hid fun n' => HP.out.step (n' := n') hlt
      have hi0 : (0 : Int) ≤ (k : Int) := by omega
      have hi1 : (k : Int) < (fs.length : Int) := by omega
      clear c0 c1
      generalize (fs.getD k .z).q = q at *
      generalize (fs.getD k .z).e = e at *
      have HB1 := Lib.hid (below_then HB.out HB.out.size ((Below.refl wr.heap.size wr).alloc (Nat.le_refl _) (.cells #[.int .u64 (q : Int), .int .i64 e] 129)))
      have KB := Lib.hid (Blk.new wr 129 #[.int .u64 (q : Int), .int .i64 e])
      by_cases he1 : e < 1
      · have g0 : decide (e < 1) = true := decide_eq_true he1
        go_wp2_with fail
        go_ret2
        exact (ProdPost.no fs HB1.out)
      have g0 : decide (e < 1) = false := decide_eq_false he1
      by_cases he2 : 62 < e
      · have g1 : decide (62 < e) = true := decide_eq_true he2
        go_wp2_with fail
        go_ret2
        exact (ProdPost.no fs HB1.out)
      have g1 : decide (62 < e) = false := decide_eq_false he2
      by_cases hq2 : q < 2
      · have g2 : decide ((q : Int) < 2) = true := decide_eq_true (by omega)
        have g2' : decide (q < 2) = true := decide_eq_true hq2
        go_wp2_with fail
        go_ret2
        exact (ProdPost.no fs HB1.out)
      have g2 : decide ((q : Int) < 2) = false := decide_eq_false (by omega)
      have g2' : decide (q < 2) = false := decide_eq_false hq2
      have hqne : ¬ (q : Int) = 0 := by omega
      have hqne' : ¬ q = 0 := by omega
      obtain ⟨m, rfl⟩ : ∃ m : Nat, e = (m : Int) := ⟨e.toNat, by omega⟩
      have HST2 := Lib.hid fun (n' : Nat) (h : n' = n * q ^ m) => HST.out n' (by omega) (by omega) (by omega) (by rw [Int.toNat_natCast]; exact h)
      have hm1 : 1 ≤ m := by omega
      have hm2 : m ≤ 62 := by omega
      have e2 : (most : Int) / q = ((most / q : Nat) : Int) := (Int.natCast_ediv _ _).symm
      have HMUL := Lib.hid fun (x : Nat) (h : x ≤ most / q) => (show x * q < Mg.R from Nat.lt_of_le_of_lt ((Nat.le_div_iff_mul_le (by omega)).1 h) hmost)
      have s4 : IntKind.u64.wrap ((most / q : Nat) : Int) = ((most / q : Nat) : Int) := by
        have h := Nat.div_le_self most q
        exact w_small (Int.natCast_nonneg _) (by simp only [Mg.R] at hmost; omega)
      clear HST he1 he2 hq2
      generalize most / q = mq at *
      go_wp2_with fail
      have m0 := KB.out.cell 0
      have m1 := KB.out.cell 1
      generalize wr.alloc (.cells #[.int .u64 (q : Int), .int .i64 (m : Int)] 129) = U at *
      generalize wr.heap.size = b8 at *
      have X0 := Lib.hid (show n = n * q ^ 0 by rw [Nat.pow_zero, Nat.mul_one])
      go_loopw [6, 9] (fun nv jv wr => ∃ j x : Nat, nv = .int .u64 x ∧ jv = .int .i64 j ∧ j ≤ m ∧ x < Mg.R ∧ Hid (x = n * q ^ j) ∧ wr = U) (fun _ jv _ => m - (intOf jv).toNat)
      case atStart => exact ⟨0, n, rfl, rfl, by omega, hnR, X0, by first | rfl | trivial⟩
      case round =>
        clear X0
        obtain ⟨j, x, rfl, rfl, hj, hxR, HX, hw⟩ := hrel
        subst hw
        by_cases hjm : j < m
        · have j0 : decide ((j : Int) < (m : Int)) = true := decide_eq_true (by omega)
          have j0' : decide (j < m) = true := decide_eq_true hjm
          by_cases hx : mq < x
          · have x0 : decide ((mq : Int) < (x : Int)) = true := decide_eq_true (by omega)
            have x0' : decide (mq < x) = true := decide_eq_true hx
            go_wp2_with fail
            go_ret2
            exact (ProdPost.no fs HB1.out)
          · have x0 : decide ((mq : Int) < (x : Int)) = false := decide_eq_false (by omega)
            have x0' : decide (mq < x) = false := decide_eq_false hx
            have hR2 := HMUL.out x (Nat.le_of_not_lt hx)
            have HX2 := Lib.hid (show x * q = n * q ^ (j + 1) by rw [HX.out, Nat.pow_succ, Nat.mul_assoc])
            have eW : IntKind.u64.wrap ((x : Int) * q) = ((x * q : Nat) : Int) := by
              rw [← Int.natCast_mul]
              exact w_small (Int.natCast_nonneg _) (by simp only [Mg.R] at hR2; omega)
            clear hx
            generalize x * q = y at *
            go_wp2_with fail
            go_roundw
            case rel => exact ⟨j + 1, y, rfl, by go_num, by omega, hR2, HX2, by first | rfl | trivial⟩
            case measure => simp [intOf]; omega
        · have hjm2 : j = m := by omega
          have HP2 := Lib.hid (HST2.out x (by rw [HX.out, hjm2]))
          have j0 : decide ((j : Int) < (m : Int)) = false := decide_eq_false (by omega)
          have j0' : decide (j < m) = false := decide_eq_false hjm
          clear hjm2
          go_wp2_with fail
          go_roundw
          case rel => exact ⟨k + 1, x, by omega, by go_num, rfl, hxR, HP2, HB1⟩
          case measure => simp [intOf]; omega
    · have hkk : k = fs.length := by omega
      subst hkk
      go_wp2_with fail
      go_ret2
      exact ⟨n, true, rfl, fun _ => HP.out, HB.out⟩
end Go.Proofs.YtpkpadepccneeaaGreatDoor

/- Plain: when an entry is right, by its places' parts. No program in it. No condition. -/
namespace Go.Proofs.YtpkpadepccneeaaGreatDoor
set_option linter.unusedVariables false
set_option linter.unusedSimpArgs false
theorem wholeL_idx (ah : List Ent) (p : Nat) (fs : List Fac) (hp : p < Mg.R) (h0 : 0 < p) (h1 : ∀ j, j < fs.length → 1 ≤ (fs.getD j .z).e ∧ (fs.getD j .z).e ≤ 62 ∧ 2 ≤ (fs.getD j .z).q)
    (h2 : ∀ j, j + 1 < fs.length → (fs.getD j .z).q < (fs.getD (j + 1) .z).q ∧ claimed ah (fs.getD (j + 1) .z).q = true) : ∀ (m k n : Nat), fs.length - k = m → n * Nt.prodOf (facs (fs.drop k)) = p - 1 → wholeL ah p (fs.drop k) (prevOf fs k) n = true
  | 0, k, n, hm, hn => by
    rw [List.drop_eq_nil_of_le (by omega)] at hn
    rw [wholeL_end ah p fs n k (by omega), decide_eq_true_iff, ← hn]
    exact (Nat.mul_one n).symm
  | m + 1, k, n, hm, hn => by
    have hk : k < fs.length := by omega
    obtain ⟨a1, a2, a3⟩ := h1 k hk
    have hb : backs ah (prevOf fs k) (fs.getD k .z).q = false := by
      cases k with
      | zero => rfl
      | succ j =>
        obtain ⟨b1, b2⟩ := h2 j hk
        show (decide ((fs.getD (j + 1) .z).q ≤ (fs.getD j .z).q) || !claimed ah (fs.getD (j + 1) .z).q) = false
        rw [b2, decide_eq_false (by omega)]
        rfl
    rw [wholeL_on ah p fs n k hk (by omega) hb]
    rw [drop_getD fs .z hk] at hn
    have hn' : n * (fs.getD k .z).q ^ (fs.getD k .z).e.toNat * Nt.prodOf (facs (fs.drop (k + 1))) = p - 1 := by
      rw [Nat.mul_assoc]; exact hn
    have hpos : 0 < Nt.prodOf (facs (fs.drop (k + 1))) := by
      have : ∀ l : List Fac, (∀ f ∈ l, 0 < f.q) → 0 < Nt.prodOf (facs l) := fun l => by
        induction l with
        | nil => intro _; exact Nat.one_pos
        | cons g s ih => intro hh; exact Nat.mul_pos (Nat.pow_pos (hh g (List.mem_cons_self ..))) (ih fun x hx => hh x (List.mem_cons_of_mem _ hx))
      refine this _ fun f hf => ?_
      obtain ⟨j, hj, rfl⟩ := List.getElem_of_mem (List.mem_of_mem_drop hf)
      have := (h1 j hj).2.2
      rw [List.getD_eq_getElem?_getD, List.getElem?_eq_getElem hj] at this
      have h3 : 2 ≤ fs[j].q := this
      omega
    have hlt : n * (fs.getD k .z).q ^ (fs.getD k .z).e.toNat < Mg.R := by
      have := Nat.le_mul_of_pos_right (n * (fs.getD k .z).q ^ (fs.getD k .z).e.toNat) hpos
      omega
    rw [mulUp_ok _ (by omega) _ _ hlt]
    exact wholeL_idx ah p fs hp h0 h1 h2 m (k + 1) _ (by omega) hn'
/-- What the reference asks of an entry, in parts. -/
structure RightR (ah : List Ent) (x : Ent) : Prop where
  odd : x.p % 2 ≠ 0
  low : ¬ x.p < 3
  high : ¬ 9223372036854775807 < x.p
  prev : ah.length = 0 ∨ (ah.getD (ah.length - 1) .z).p < x.p
  ne : ¬ x.fs.length < 1
  le : ¬ 16 < x.fs.length
  two : (x.fs.getD 0 .z).q = 2
  up : ∀ j, j + 1 < x.fs.length → (x.fs.getD j .z).q < (x.fs.getD (j + 1) .z).q ∧ claimed ah (x.fs.getD (j + 1) .z).q = true
  prod : ProdOk x.fs x.fs.length (x.p - 1)
  g2 : ¬ x.g < 2
  gp : ¬ x.p ≤ x.g
  one : x.g ^ (x.p - 1) % x.p = 1
  not : ∀ j, j < x.fs.length → x.g ^ ((x.p - 1) / (x.fs.getD j .z).q) % x.p ≠ 1
theorem RightR.right {ah : List Ent} {x : Ent} (h : RightR ah x) : right ah x = true := by
  have a1 := h.odd
  have a2 := h.low
  have a3 := h.high
  have a4 := h.prev
  have a5 := h.ne
  have a6 := h.le
  have hv := h.prod.val
  rw [List.take_length] at hv
  unfold Go.Proofs.YtpkpadepccneeaaGreatDoor.right
  rw [if_neg a1, if_neg a2, if_neg (by omega), if_neg h.g2, if_neg h.gp, if_neg (fun hh => by rcases a4 with h4 | h4 <;> omega), Bool.and_eq_true]
  constructor
  · unfold whole
    rw [if_neg (by omega), if_neg a6, if_neg (fun hh => hh h.two)]
    have := wholeL_idx ah x.p x.fs (by simp only [Mg.R]; omega) (by omega) (fun j hj => h.prod.ok j hj) h.up _ 0 1 rfl (by rw [List.drop_zero, Nat.one_mul, ← hv])
    rw [List.drop_zero] at this
    exact this
  · unfold full
    rw [if_pos h.one]
    refine fullL_ok x x.fs fun f hf => ?_
    obtain ⟨j, hj, rfl⟩ := List.getElem_of_mem hf
    have := h.not j hj
    rw [List.getD_eq_getElem?_getD, List.getElem?_eq_getElem hj] at this
    exact this
end Go.Proofs.YtpkpadepccneeaaGreatDoor
