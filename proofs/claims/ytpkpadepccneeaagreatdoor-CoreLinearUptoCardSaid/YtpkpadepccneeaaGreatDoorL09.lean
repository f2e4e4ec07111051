/- The walks of proof.right and proof.Check. No condition. -/
import Derived.Test.YtpkpadepccneeaaGreatDoorL06
import Derived.Test.YtpkpadepccneeaaGreatDoorL07
import Derived.Test.YtpkpadepccneeaaGreatDoorL08
namespace Go.Proofs.YtpkpadepccneeaaGreatDoor
open Go.RowKit
set_option linter.unusedVariables false
theorem whole_q1 {ah : List Ent} {x : Ent} (h : whole ah x = true) (ha : ∀ i, i < ah.length → 1 ≤ (ah.getD i .z).p) : x.fs.length ≤ 16 ∧ ∀ f ∈ x.fs, 1 ≤ f.q := by
  unfold whole at h
  split at h
  · cases h
  split at h
  · cases h
  split at h
  · cases h
  rename_i h0 h1 h2
  refine ⟨by omega, ?_⟩
  intro f hf
  have h2' : (x.fs.getD 0 .z).q = 2 := Classical.byContradiction fun h => h2 h
  cases hfs : x.fs with
  | nil => rw [hfs] at hf; cases hf
  | cons a r =>
    rw [hfs] at hf h h2'
    rcases List.mem_cons.1 hf with rfl | hf
    · have : f.q = 2 := h2'
      omega
    · obtain ⟨j, hj, he⟩ := (claimed_iff _ _).1 (wholeL_none ah _ _ _ _ h f hf)
      rw [← he]; exact ha j hj
structure Oks (l : List Ent) : Prop where
  p : ∀ i, i < l.length → (l.getD i .z).p < Mg.R ∧ (l.getD i .z).g < Mg.R
  q : ∀ i, i < l.length → ∀ f ∈ (l.getD i .z).fs, f.q < Mg.R
  n : ∀ i, i < l.length → (l.getD i .z).fs.length ≤ 9223372036854775807
set_option maxHeartbeats 1000000 in
theorem right_any (A : Option Addr) (cA : Nat) (ah : List Ent) (x : Ent) (F : Option Addr) (c : Nat) (w : World) (ha : EI w A ah) (hA : ah.length ≤ 9223372036854775806) (hf : FI w F x.fs) (hm : x.fs.length ≤ 9223372036854775807)
    (hp : x.p < Mg.R) (hg : x.g < Mg.R) (hq : ∀ f ∈ x.fs, f.q < Mg.R) (h1 : ∀ i, i < ah.length → 1 ≤ (ah.getD i .z).p) :
    Calls Tryz.prog 54 #[.slice A ah.length cA, .agg #[.int .u64 x.p, .int .u64 x.g, .slice F x.fs.length c]] w fun e w' => e = .returned (.bool (right ah x)) ∧ Below w.heap.size w w' := by
  have HB0 := Lib.hid ((Below.refl w.heap.size w).alloc (Nat.le_refl _) (.cells #[.int .u64 x.p, .int .u64 x.g, .slice F x.fs.length c] 126))
  have K0 := Lib.hid (Blk.new w 126 #[.int .u64 x.p, .int .u64 x.g, .slice F x.fs.length c])
  have HA := Lib.hid ha
  have HF := Lib.hid hf
  have HW : 1 ≤ x.p → ∀ W, EI W A ah → FI W F x.fs → Calls Tryz.prog 97 #[.slice A ah.length cA, .agg #[.int .u64 x.p, .int .u64 x.g, .slice F x.fs.length c]] W fun e w' => e = .returned (.bool (whole ah x)) ∧ Below W.heap.size W w' :=
    fun h0 W e1 e2 => whole_any A cA ah x F c W e1 hA e2 hm h0 hp hq
  have HW := Lib.hid HW
  have HU : x.p % 2 = 1 → 3 ≤ x.p → x.p < 9223372036854775808 → whole ah x = true → ∀ W, FI W F x.fs → Calls Tryz.prog 98 #[.agg #[.int .u64 x.p, .int .u64 x.g, .slice F x.fs.length c]] W fun e w' => e = .returned (.bool (full x)) ∧ Below W.heap.size W w' :=
    fun a1 a2 a3 a4 W e2 => full_any x F c W e2 (whole_q1 a4 h1).1 hg (fun f hf => ⟨(whole_q1 a4 h1).2 f hf, hq f hf⟩) a1 a2 a3
  have HU := Lib.hid HU
  have hand : Hid (bits .and .u64 (x.p : Int) 1 = ((x.p % 2 : Nat) : Int)) := Lib.hid (and_one x.p hp)
  have hr : right ah x = if x.p % 2 = 0 then false else if x.p < 3 then false else if 9223372036854775808 ≤ x.p then false else if x.g < 2 then false else if x.p ≤ x.g then false
    else if ah.length ≠ 0 ∧ x.p ≤ (ah.getD (ah.length - 1) .z).p then false else whole ah x && full x := rfl
  have HP := Lib.hid hp
  have HG := Lib.hid hg
  clear ha hf hp hg hq h1
  generalize x.fs.length = nf at *
  generalize right ah x = res at *
  generalize whole ah x = wh at *
  generalize full x = fu at *
  generalize x.p = p at *
  generalize x.g = g at *
  by_cases c1 : p % 2 = 0
  · rw [if_pos c1] at hr
    have b1 : bits .and .u64 (p : Int) 1 = 0 := by rw [hand.out, c1]; rfl
    have hr := Lib.hid hr
    clear c1
    go_enter Tryz.func54, Tryz.ntmps54
    go_wp2_with fail
    go_ret
    exact ⟨by rw [hr.out]; rfl, HB0.out⟩
  rw [if_neg c1] at hr
  have b1 : bits .and .u64 (p : Int) 1 = 1 := by rw [hand.out, show p % 2 = 1 by omega]; rfl
  have HO := Lib.hid (show p % 2 = 1 by omega)
  by_cases c2 : p < 3
  · rw [if_pos c2] at hr
    have bc2 : decide ((p : Int) < 3) = true := by simp; omega
    have hr := Lib.hid hr
    clear c1 c2
    go_enter Tryz.func54, Tryz.ntmps54
    go_wp2_with fail
    go_ret
    exact ⟨by rw [hr.out]; rfl, HB0.out⟩
  rw [if_neg c2] at hr
  have bc2 : decide ((p : Int) < 3) = false := by simp; omega
  have HL := Lib.hid (show 3 ≤ p by omega)
  have HL1 := Lib.hid (show 1 ≤ p by omega)
  by_cases c3 : 9223372036854775808 ≤ p
  · rw [if_pos c3] at hr
    have bc3 : decide ((9223372036854775808 : Int) ≤ p) = true := by simp; omega
    have hr := Lib.hid hr
    clear c1 c2 c3
    go_enter Tryz.func54, Tryz.ntmps54
    go_wp2_with fail
    go_ret
    exact ⟨by rw [hr.out]; rfl, HB0.out⟩
  rw [if_neg c3] at hr
  have bc3 : decide ((9223372036854775808 : Int) ≤ p) = false := by simp; omega
  have HH := Lib.hid (show p < 9223372036854775808 by omega)
  by_cases c4 : g < 2
  · rw [if_pos c4] at hr
    have bc4 : decide ((g : Int) < 2) = true := by simp; omega
    have hr := Lib.hid hr
    clear c1 c2 c3 c4
    go_enter Tryz.func54, Tryz.ntmps54
    go_wp2_with fail
    go_ret
    exact ⟨by rw [hr.out]; rfl, HB0.out⟩
  rw [if_neg c4] at hr
  have bc4 : decide ((g : Int) < 2) = false := by simp; omega
  by_cases c5 : p ≤ g
  · rw [if_pos c5] at hr
    have bc5 : decide (p ≤ g) = true := by simp; omega
    have hr := Lib.hid hr
    clear c1 c2 c3 c4 c5
    go_enter Tryz.func54, Tryz.ntmps54
    go_wp2_with fail
    go_ret
    exact ⟨by rw [hr.out]; rfl, HB0.out⟩
  rw [if_neg c5] at hr
  have bc5 : decide (p ≤ g) = false := by simp; omega
  clear c1 c2 c3 c4 c5
  have TAIL : ∀ (W : World), Below w.heap.size w W → Blk W w.heap.size 126 #[.int .u64 p, .int .u64 g, .slice F nf c] → True := fun _ _ _ => trivial
  clear TAIL
  by_cases hn : ah.length = 0
  · rw [if_neg (fun h => h.1 hn)] at hr
    have g0 : decide (0 < ah.length) = false := decide_eq_false (by omega)
    have HR := Lib.hid hr
    clear hr hn
    cases wh with
    | true =>
      go_enter Tryz.func54, Tryz.ntmps54
      go_wp2_with fail
      go_quiet (fail)
      go_wp2_with fail
      obtain ⟨V, hV⟩ : ∃ V, (w.alloc (.cells #[.int .u64 p, .int .u64 g, .slice F nf c] 126)).drewN nq = V := ⟨_, rfl⟩
      rw [hV]
      have BV := Lib.hid (show Below w.heap.size w V by rw [← hV]; exact below_drewN HB0.out _)
      have KV := Lib.hid (show Blk V w.heap.size 126 #[.int .u64 p, .int .u64 g, .slice F nf c] by rw [← hV]; exact K0.out)
      clear hV
      have v0 := KV.out.cell 0
      have v1 := KV.out.cell 1
      have v2 := KV.out.cell 2
      have C1 := Lib.hid (HW.out HL1.out V (HA.out.below BV.out) (HF.out.below BV.out))
      go_wp2_with fail
      with_reducible refine (C1.out).mono ?_
      rintro e w1 ⟨rfl, hb1⟩
      have B1 := Lib.hid (below_then BV.out BV.out.size hb1)
      have KB := Lib.hid (KV.out.below hb1 KV.out.lt)
      clear hb1 v0 v1 v2
      have u0 := KB.out.cell 0
      have u1 := KB.out.cell 1
      have u2 := KB.out.cell 2
      have C2 := Lib.hid (HU.out HO.out HL.out HH.out (by trivial) w1 (HF.out.below B1.out))
      go_wp2_with fail
      with_reducible refine (C2.out).mono ?_
      rintro e w2 ⟨rfl, hb2⟩
      have B2 := Lib.hid (below_then B1.out B1.out.size hb2)
      go_wp2_with fail
      go_ret
      exact ⟨by rw [HR.out]; rfl, B2.out⟩
    | false =>
      go_enter Tryz.func54, Tryz.ntmps54
      go_wp2_with fail
      go_quiet (fail)
      go_wp2_with fail
      obtain ⟨V, hV⟩ : ∃ V, (w.alloc (.cells #[.int .u64 p, .int .u64 g, .slice F nf c] 126)).drewN nq = V := ⟨_, rfl⟩
      rw [hV]
      have BV := Lib.hid (show Below w.heap.size w V by rw [← hV]; exact below_drewN HB0.out _)
      have KV := Lib.hid (show Blk V w.heap.size 126 #[.int .u64 p, .int .u64 g, .slice F nf c] by rw [← hV]; exact K0.out)
      clear hV
      have v0 := KV.out.cell 0
      have v1 := KV.out.cell 1
      have v2 := KV.out.cell 2
      have C1 := Lib.hid (HW.out HL1.out V (HA.out.below BV.out) (HF.out.below BV.out))
      go_wp2_with fail
      with_reducible refine (C1.out).mono ?_
      rintro e w1 ⟨rfl, hb1⟩
      have B1 := Lib.hid (below_then BV.out BV.out.size hb1)
      clear hb1
      go_wp2_with fail
      go_ret
      exact ⟨by rw [HR.out]; rfl, B1.out⟩
  · have g0 : decide (0 < ah.length) = true := by simp; omega
    obtain ⟨b, o, F', c', rfl, k1, _, _, _, _⟩ := HA.out (ah.length - 1) (by omega)
    have k1' := bcell HB0.out k1
    have s1 : IntKind.i64.wrap ((ah.length : Int) - 1) = ((ah.length - 1 : Nat) : Int) := by rw [IntWalk.i64_in _ (by omega)]; omega
    have s2 : (0 : Int) ≤ ((ah.length - 1 : Nat) : Int) := by omega
    have s3 : ((ah.length - 1 : Nat) : Int) < ah.length := by omega
    have s4 : ((ah.length - 1 : Nat) : Int).toNat = ah.length - 1 := by omega
    clear k1
    generalize (ah.getD (ah.length - 1) .z).p = pl at *
    generalize hl1 : ah.length - 1 = l1 at *
    have d0 := K0.out.cell 0
    by_cases hle : p ≤ pl
    · rw [if_pos ⟨hn, hle⟩] at hr
      have g1 : decide (p ≤ pl) = true := by simp; omega
      have HR := Lib.hid hr
      clear hr hn hle hl1
      go_enter Tryz.func54, Tryz.ntmps54
      go_wp2_with fail
      go_quiet (fail)
      go_wp2_with fail
      go_ret
      exact ⟨by rw [HR.out]; rfl, below_drewN HB0.out _⟩
    · rw [if_neg (fun h => hle h.2)] at hr
      have g1 : decide (p ≤ pl) = false := by simp; omega
      have HR := Lib.hid hr
      clear hr hn hle hl1
      cases wh with
      | true =>
        go_enter Tryz.func54, Tryz.ntmps54
        go_wp2_with fail
        go_quiet (fail)
        go_wp2_with fail
        obtain ⟨V, hV⟩ : ∃ V, (w.alloc (.cells #[.int .u64 p, .int .u64 g, .slice F nf c] 126)).drewN nq = V := ⟨_, rfl⟩
        rw [hV]
        have BV := Lib.hid (show Below w.heap.size w V by rw [← hV]; exact below_drewN HB0.out _)
        have KV := Lib.hid (show Blk V w.heap.size 126 #[.int .u64 p, .int .u64 g, .slice F nf c] by rw [← hV]; exact K0.out)
        clear hV
        have v0 := KV.out.cell 0
        have v1 := KV.out.cell 1
        have v2 := KV.out.cell 2
        have C1 := Lib.hid (HW.out HL1.out V (HA.out.below BV.out) (HF.out.below BV.out))
        go_wp2_with fail
        with_reducible refine (C1.out).mono ?_
        rintro e w1 ⟨rfl, hb1⟩
        have B1 := Lib.hid (below_then BV.out BV.out.size hb1)
        have KB := Lib.hid (KV.out.below hb1 KV.out.lt)
        clear hb1 v0 v1 v2
        have u0 := KB.out.cell 0
        have u1 := KB.out.cell 1
        have u2 := KB.out.cell 2
        have C2 := Lib.hid (HU.out HO.out HL.out HH.out (by trivial) w1 (HF.out.below B1.out))
        go_wp2_with fail
        with_reducible refine (C2.out).mono ?_
        rintro e w2 ⟨rfl, hb2⟩
        have B2 := Lib.hid (below_then B1.out B1.out.size hb2)
        go_wp2_with fail
        go_ret
        exact ⟨by rw [HR.out]; rfl, B2.out⟩
      | false =>
        go_enter Tryz.func54, Tryz.ntmps54
        go_wp2_with fail
        go_quiet (fail)
        go_wp2_with fail
        obtain ⟨V, hV⟩ : ∃ V, (w.alloc (.cells #[.int .u64 p, .int .u64 g, .slice F nf c] 126)).drewN nq = V := ⟨_, rfl⟩
        rw [hV]
        have BV := Lib.hid (show Below w.heap.size w V by rw [← hV]; exact below_drewN HB0.out _)
        have KV := Lib.hid (show Blk V w.heap.size 126 #[.int .u64 p, .int .u64 g, .slice F nf c] by rw [← hV]; exact K0.out)
        clear hV
        have v0 := KV.out.cell 0
        have v1 := KV.out.cell 1
        have v2 := KV.out.cell 2
        have C1 := Lib.hid (HW.out HL1.out V (HA.out.below BV.out) (HF.out.below BV.out))
        go_wp2_with fail
        with_reducible refine (C1.out).mono ?_
        rintro e w1 ⟨rfl, hb1⟩
        have B1 := Lib.hid (below_then BV.out BV.out.size hb1)
        clear hb1
        go_wp2_with fail
        go_ret
        exact ⟨by rw [HR.out]; rfl, B1.out⟩
theorem firstBad_pos (l : List Ent) (k : Nat) (h : firstBad l 0 = firstBad l k) (hk : k < l.length) (hr : right (l.take k) (l.getD k .z) = true) : firstBad l 0 = firstBad l (k + 1) := by
  rw [h, firstBad_at l k hk, if_pos hr]
theorem take_len {α : Type} (l : List α) (k : Nat) (h : k < l.length) : (l.take k).length = k := by rw [List.length_take]; omega
theorem take_p1 (l : List Ent) (k : Nat) (hk : k < l.length) (h : ∀ j, j < k → 1 ≤ (l.getD j .z).p) : ∀ i, i < (l.take k).length → 1 ≤ ((l.take k).getD i .z).p := by
  intro i hi
  rw [take_len l k hk] at hi
  rw [List.getD_eq_getElem?_getD, List.getElem?_take_of_lt hi, ← List.getD_eq_getElem?_getD]
  exact h i hi
def ckRes : Option Nat → Int × Int | none => (0, 0) | some i => ((i : Int), 3)
set_option maxRecDepth 100000 in
set_option maxHeartbeats 1000000 in
theorem Check_any (A : Option Addr) (cA : Nat) (l : List Ent) (w : World) (hl : EI w A l) (hm : l.length ≤ 9223372036854775806) (hcA : l.length ≤ cA) (hcm : cA ≤ maxLen) (ho : Oks l) :
    Calls Tryz.prog 20 #[.slice A l.length cA] w fun e w' => e = .returned (.tuple #[.int .i64 (checkS l).1, .int .i64 (checkS l).2]) ∧ Below w.heap.size w w' := by
  have hcm : cA ≤ 9223372036854775807 := hcm
  by_cases h32 : 32 < l.length
  · have g0 : decide ((32 : Int) < l.length) = true := by simp; omega
    have hr : checkS l = (0, 13) := by unfold checkS; rw [if_pos h32]
    rw [hr]
    clear hr h32 hl ho
    go_enter Tryz.func20, Tryz.ntmps20
    go_wp2_with fail
    go_ret2
    exact ⟨rfl, Below.refl _ _⟩
  have g0 : decide ((32 : Int) < l.length) = false := by simp; omega
  have hr : checkS l = ckRes (firstBad l 0) := by unfold checkS ckRes; rw [if_neg h32]; cases firstBad l 0 <;> rfl
  generalize checkS l = res at *
  have HR := Lib.hid hr
  have HL := Lib.hid hl
  have HO := Lib.hid ho
  clear hr hl ho h32
  go_enter Tryz.func20, Tryz.ntmps20
  go_wp2_with fail
  go_loopw [11] (fun i wr => ∃ k : Nat, k ≤ l.length ∧ i = .int .i64 k ∧ Hid (firstBad l 0 = firstBad l k) ∧ Hid (∀ j, j < k → 1 ≤ (l.getD j .z).p) ∧ Hid (Below w.heap.size w wr)) (fun i _ => l.length - (intOf i).toNat)
  case atStart => exact ⟨0, by omega, rfl, Lib.hid rfl, Lib.hid (fun j hj => by omega), Lib.hid (Below.refl _ _)⟩
  case round =>
    obtain ⟨k, hk, rfl, HI, HP, HB⟩ := hrel
    by_cases hlt : k < l.length
    · obtain ⟨b, o, F, cf, rfl, c1, c2, c3, hfl, hf⟩ := HL.out k hlt
      have k1 := bcell HB.out c1
      have k2 := bcell HB.out c2
      have k3 := bcell HB.out c3
      have HT := Lib.hid ((HL.out).take k)
      have HF := Lib.hid hf
      have HB1 := Lib.hid (below_then HB.out HB.out.size ((Below.refl wr.heap.size wr).alloc (Nat.le_refl _) (.cells #[.int .u64 (l.getD k .z).p, .int .u64 (l.getD k .z).g, .slice F (l.getD k .z).fs.length cf] 126)))
      have HK1 := Lib.hid (Blk.new wr 126 #[.int .u64 (l.getD k .z).p, .int .u64 (l.getD k .z).g, .slice F (l.getD k .z).fs.length cf])
      have hex : ∀ W, Below w.heap.size w W → Calls Tryz.prog 54 #[.slice (some ⟨b, o, none⟩) k cA, .agg #[.int .u64 (l.getD k .z).p, .int .u64 (l.getD k .z).g, .slice F (l.getD k .z).fs.length cf]] W fun e w' => e = .returned (.bool (right (l.take k) (l.getD k .z))) ∧ Below W.heap.size W w' := by
        intro W hW
        have := right_any (some ⟨b, o, none⟩) cA (l.take k) (l.getD k .z) F cf W (HT.out.below hW) (by rw [take_len l k hlt]; omega) (HF.out.below hW) (HO.out.n k hlt) (HO.out.p k hlt).1 (HO.out.p k hlt).2 (HO.out.q k hlt) (take_p1 l k hlt HP.out)
        rw [take_len l k hlt] at this
        exact this
      have CR := Lib.hid hex
      have hk0 : (0 : Int) ≤ (k : Int) := by omega
      have hkc : (k : Int) ≤ cA := by omega
      have hkn : ((k : Nat) : Int).toNat = k := by omega
      clear c1 c2 c3 hfl hf hex
      have HS1 := Lib.hid (firstBad_pos l k HI.out hlt)
      have HS2 := Lib.hid (fun (h : right (l.take k) (l.getD k .z) = false) => HI.out.trans ((firstBad_at l k hlt).trans (by rw [h, if_neg (by simp)])))
      have HQ := Lib.hid (fun (h : right (l.take k) (l.getD k .z) = true) => show 1 ≤ (l.getD k .z).p from by have := (right_spec h).low; omega)
      generalize hrr : right (l.take k) (l.getD k .z) = rr at *
      clear hrr
      generalize hnf : (l.getD k .z).fs.length = nf at *
      generalize hpp : (l.getD k .z).p = p at *
      generalize hgg : (l.getD k .z).g = g at *
      have HPP := Lib.hid hpp
      clear hnf hpp hgg
      go_upto_region 6 with fail
      generalize wr.alloc (.cells #[.int .u64 p, .int .u64 g, .slice F nf cf] 126) = U at *
      have u0 := HK1.out.cell 0
      have u1 := HK1.out.cell 1
      have u2 := HK1.out.cell 2
      have CU := Lib.hid (CR.out U.drew HB1.out.drew)
      have HB1d := Lib.hid HB1.out.drew
      cases rr with
      | true =>
        go_still_tail 4, (by kernel_rfl)
        change wpList _ _ _ _ _ U.drew
        go_wp2_with fail
        with_reducible refine (CU.out).mono ?_
        rintro e w1 ⟨rfl, hb1⟩
        have B1 := Lib.hid (below_then HB1d.out HB1d.out.size hb1)
        clear hb1
        go_wp2_with fail
        go_roundw
        case rel => exact ⟨k + 1, by omega, by go_num, Lib.hid (HS1.out (by trivial)), Lib.hid (fun j hj => by
          by_cases hjk : j = k
          · subst hjk; rw [HPP.out]; exact HQ.out (by trivial)
          · exact HP.out j (by omega)), B1⟩
        case measure => simp [intOf]; omega
      | false =>
        have HV := HS2.out rfl
        rw [HV] at HR
        have HR2 := Lib.hid HR.out
        go_still_tail 4, (by kernel_rfl)
        change wpList _ _ _ _ _ U.drew
        go_wp2_with fail
        with_reducible refine (CU.out).mono ?_
        rintro e w1 ⟨rfl, hb1⟩
        have B1 := Lib.hid (below_then HB1d.out HB1d.out.size hb1)
        clear hb1
        go_wp2_with fail
        go_ret2
        exact ⟨by rw [HR2.out]; rfl, B1.out⟩
    · have HV := HI.out.trans (firstBad_end l k hlt)
      rw [HV] at HR
      have HR2 := Lib.hid HR.out
      clear HV
      go_wp2_with fail
      go_ret2
      exact ⟨by rw [HR2.out]; rfl, HB.out⟩
end Go.Proofs.YtpkpadepccneeaaGreatDoor

/- The walks of slices.Clone at factors, proof.Claim. No condition. -/
namespace Go.Proofs.YtpkpadepccneeaaGreatDoor
open Go.RowKit
set_option linter.unusedVariables false
theorem nil_eq124 (w : World) : (binOp .eql 124 (.slice none 0 0) (.slice none 0 0)).run Tryz.prog w = .ok (.bool true) w := by kernel_rfl
theorem some_eq124 (ad : Addr) (n c : Nat) (w : World) : (binOp .eql 124 (.slice (some ad) n c) (.slice none 0 0)).run Tryz.prog w = .ok (.bool false) w := by kernel_rfl
def facEnc (f : Fac) : List Value := [.int .u64 (f.q : Int), .int .i64 f.e]
theorem facEnc_len (f : Fac) : (facEnc f).length = 2 := rfl
theorem addr_add (b o i : Nat) : (⟨b, o, none⟩ : Addr).add i = ⟨b, o + i, none⟩ := by unfold Addr.add; by_cases h : i = 0 <;> simp [h]
theorem FI.flat {w : World} {b o : Nat} {fs : List Fac} (h : FI w (some ⟨b, o, none⟩) fs) : ∀ j u, (fs.flatMap facEnc)[j]? = some u → w.cell? ((⟨b, o, none⟩ : Addr).add j) = some u := by
  intro j u hj
  have hlt : j < fs.length * 2 := by
    have := (List.getElem?_eq_some_iff.1 hj).1
    rwa [flat_len facEnc_len] at this
  have hj2 : j / 2 < fs.length := by omega
  obtain ⟨b', o', e, c1, c2⟩ := h (j / 2) hj2
  injection e with e
  injection e with e1 e2
  subst e1; subst e2
  rw [show j = j / 2 * 2 + j % 2 by omega, flat_at facEnc_len fs (j / 2) (j % 2) hj2 (by omega)] at hj
  have hg : fs[j / 2]? = some (fs.getD (j / 2) .z) := by rw [List.getD_eq_getElem?_getD, List.getElem?_eq_getElem hj2]; rfl
  rw [hg] at hj
  rw [addr_add]
  rcases Nat.mod_two_eq_zero_or_one j with h0 | h0
  · rw [h0] at hj
    have : some u = some (.int .u64 ((fs.getD (j / 2) .z).q : Int)) := hj.symm
    rw [this, show o + j = o + j / 2 * 2 by omega]; exact c1
  · rw [h0] at hj
    have : some u = some (.int .i64 (fs.getD (j / 2) .z).e) := hj.symm
    rw [this, show o + j = o + j / 2 * 2 + 1 by omega]; exact c2
theorem info130 : (Tryz.prog.info? 130).map (fun i => (i.zero, i.size, i.bytes)) = some (some (.agg #[.int .u64 0, .int .i64 0]), 2, 16) := by kernel_rfl
theorem fs_len0 {w : World} {fs : List Fac} (h : FI w none fs) : fs.length = 0 := by
  rcases Nat.eq_zero_or_pos fs.length with h0 | h0
  · exact h0
  · obtain ⟨b, o, e, _⟩ := h 0 h0; cases e
set_option maxRecDepth 100000 in
set_option maxHeartbeats 1000000 in
theorem Clone99_any (F : Option Addr) (c : Nat) (fs : List Fac) (w : World) (hf : FI w F fs) (h0 : fs.length ≠ 0) (hl : fs.length ≤ 8192) :
    Calls Tryz.prog 99 #[.slice F fs.length c] w fun e w' => ∃ F' n' c', e = .returned (.slice F' n' c') ∧ Below w.heap.size w w' := by
  obtain ⟨b, o, rfl, _⟩ := hf 0 (by omega)
  obtain ⟨i0, hi, hz0, hz1, hz2⟩ := info_parts info130
  have HB := Lib.hid ((Below.refl w.heap.size w).alloc (Nat.le_refl _) (.cells #[] 130))
  have HR := Lib.hid (hf.below HB.out)
  have HO := Lib.hid (show OX facEnc 2 130 (w.alloc (.cells #[] 130)) w.heap.size (.slice (some ⟨w.heap.size, 0, none⟩) 0 0) [] from World.ownsRow_made w #[] 0 (Nat.le_refl _) (by decide) rfl)
  have HI := Lib.hid hi
  have he1 := some_eq124 ⟨b, o, none⟩ fs.length c w
  clear hf hi h0
  go_enter Tryz.func99, Tryz.ntmps99
  go_wp2_with (at_builtin; refine wpList_append_own _ rfl (.tmp 5) (.tmp 6) 124 rfl w.heap.size 130 i0 (.agg #[.int .u64 0, .int .i64 0]) 2 16 Tryz.underlying124 HI.out hz0 hz1 hz2 rfl (by decide) (.slice (some ⟨w.heap.size, 0, none⟩) 0 0) 0 [] rfl HO.out ⟨b, o, none⟩ fs.length c (fs.flatMap facEnc) rfl (flat_len facEnc_len fs) HR.out.flat (by intro u hu; simp only [List.mem_flatMap, facEnc] at hu; obtain ⟨f, _, hu⟩ := hu; simp at hu; rcases hu with rfl | rfl <;> rfl) (by unfold maxLen; omega) (by omega) (by simp) ?_; intro v w' hown hg _; have HO2 := Lib.hid hown; have HG := Lib.hid hg; clear hown hg)
  have HB2 := Lib.hid (HB.out.grown HG.out (by simp) (fun g hg => (OX.lt HO.out g hg).1))
  rcases OX.form (enc := facEnc) (sz := 2) (l := fs) (show OX facEnc 2 130 w' w.heap.size v fs by unfold OX; simpa using HO2.out) facEnc_len with ⟨rfl, _⟩ | ⟨g, c', rfl, _⟩
  · go_ret
    exact ⟨_, _, _, rfl, HB2.out⟩
  · go_ret
    exact ⟨_, _, _, rfl, HB2.out⟩
theorem checkS_none {l : List Ent} (h : checkS l = (0, 0)) : firstBad l 0 = none ∧ l.length ≤ 32 := by
  unfold checkS at h
  split at h
  · cases h
  · cases hf : firstBad l 0 with
    | none => exact ⟨rfl, by omega⟩
    | some i => rw [hf] at h; cases h
set_option maxRecDepth 100000 in
set_option maxHeartbeats 2000000 in
theorem Claim_ok (A : Option Addr) (cA : Nat) (l : List Ent) (q j : Nat) (w : World) (hl : EI w A l) (hcA : l.length ≤ cA) (hcm : cA ≤ maxLen) (ho : Oks l) (hck : checkS l = (0, 0)) (hj : indexOf l q 0 = (j : Int)) (hqR : q < Mg.R) :
    Calls Tryz.prog 55 #[.slice A l.length cA, .int .u64 q] w fun e w' => ∃ F n c, e = .returned (.tuple #[.agg #[.int .u64 q, .int .u64 (l.getD j .z).g, .slice F n c], .bool true]) ∧ Below w.heap.size w w' := by
  have hcm' : cA ≤ 9223372036854775807 := hcm
  obtain ⟨hfb, h32⟩ := checkS_none hck
  have HS := Lib.hid (row_right l hfb)
  have HB0 := Lib.hid ((Below.refl w.heap.size w).alloc (Nat.le_refl _) (.cells #[.int .u64 0, .int .u64 0, .slice none 0 0] 126))
  have K0 := Lib.hid (Blk.new w 126 #[.int .u64 0, .int .u64 0, .slice none 0 0])
  have CK := Lib.hid (Check_any A cA l (w.alloc (.cells #[.int .u64 0, .int .u64 0, .slice none 0 0] 126)) (hl.below HB0.out) (by omega) hcA hcm ho)
  rw [hck] at CK
  have HL := Lib.hid hl
  have HO := Lib.hid ho
  have HJ := Lib.hid hj
  clear hl ho hck hj hfb hcm
  go_enter Tryz.func55, Tryz.ntmps55
  go_wp2_with fail
  with_reducible refine (CK.out).mono ?_
  rintro e w1 ⟨rfl, hb1⟩
  have B1 := Lib.hid (below_then HB0.out HB0.out.size hb1)
  have K1 := Lib.hid (K0.out.below hb1 K0.out.lt)
  clear hb1 K0 CK HB0
  go_wp2_with fail
  go_loopw [20] (fun i wr => ∃ k : Nat, k ≤ l.length ∧ i = .int .i64 k ∧ Hid (indexOf l q k = (j : Int)) ∧ Hid (Below w.heap.size w wr) ∧ Hid (Blk wr w.heap.size 126 #[.int .u64 0, .int .u64 0, .slice none 0 0])) (fun i _ => l.length - (intOf i).toNat)
  case atStart => exact ⟨0, by omega, rfl, HJ, B1, K1⟩
  case round =>
    obtain ⟨k, hk, rfl, HI, HB, HK⟩ := hrel
    by_cases hlt : k < l.length
    · obtain ⟨b, o, F, cf, rfl, c1, c2, c3, hfl, hf⟩ := HL.out k hlt
      have k1 := bcell HB.out c1
      have k2 := bcell HB.out c2
      have k3 := bcell HB.out c3
      have HB1 := Lib.hid (below_then HB.out HB.out.size ((Below.refl wr.heap.size wr).alloc (Nat.le_refl _) (.cells #[.int .u64 (l.getD k .z).p, .int .u64 (l.getD k .z).g, .slice F (l.getD k .z).fs.length cf] 126)))
      have HK1 := Lib.hid (Blk.new wr 126 #[.int .u64 (l.getD k .z).p, .int .u64 (l.getD k .z).g, .slice F (l.getD k .z).fs.length cf])
      have HK2 := Lib.hid (HK.out.alloc (.cells #[.int .u64 (l.getD k .z).p, .int .u64 (l.getD k .z).g, .slice F (l.getD k .z).fs.length cf] 126))
      have es := HS.out k hlt
      have CL := Lib.hid fun X (h : Below w.heap.size w X) => Clone99_any F cf (l.getD k .z).fs X (hf.below h) es.ne (by have := es.le; omega)
      have hix := indexOf_at l q k hlt
      rw [HI.out] at hix
      clear c1 c2 c3 hfl hf es
      by_cases hpq : (l.getD k .z).p = q
      · rw [if_pos hpq] at hix
        have hjk : j = k := by omega
        subst hjk
        rw [hpq] at k1 HB1 HK1 HK2
        clear hpq hix
        generalize hnf : (l.getD j .z).fs.length = nf at *
        generalize hgg : (l.getD j .z).g = g at *
        have HGG := Lib.hid hgg
        clear hnf hgg
        go_upto_region 8 with fail
        generalize wr.alloc (.cells #[.int .u64 q, .int .u64 g, .slice F nf cf] 126) = U at *
        have s1 := HK1.out.lt
        have hne : ¬ wr.heap.size = w.heap.size := by have := HK.out.lt; omega
        have hne2 : ¬ w.heap.size = wr.heap.size := by have := HK.out.lt; omega
        have hS : U.cell? ⟨wr.heap.size, 0, none⟩ = some (.int .u64 q) ∧ U.cell? ⟨wr.heap.size, 1, none⟩ = some (.int .u64 g) ∧ U.cell? ⟨wr.heap.size, 2, none⟩ = some (.slice F nf cf) := ⟨HK1.out.cell 0, HK1.out.cell 1, HK1.out.cell 2⟩
        have HB1d := Lib.hid HB1.out.drew
        have HK1d := Lib.hid (show Blk U.drew wr.heap.size 126 #[.int .u64 q, .int .u64 g, .slice F nf cf] from HK1.out)
        have HK2d := Lib.hid (show Blk U.drew w.heap.size 126 #[.int .u64 0, .int .u64 0, .slice none 0 0] from HK2.out)
        go_region_held3 (fun w' => w'.cell? ⟨wr.heap.size, 0, none⟩ = some (.int .u64 q) ∧ w'.cell? ⟨wr.heap.size, 1, none⟩ = some (.int .u64 g) ∧ w'.cell? ⟨wr.heap.size, 2, none⟩ = some (.slice F nf cf)) (first | exact hS | go_keep)
          (first | (go_at_call 99; refine (CL.out U.drew HB1d.out).mono ?_; rintro e U2 ⟨F2, n2, c2, rfl, hb2⟩; have HB2 := Lib.hid (below_then HB1d.out HB1d.out.size hb2); have J1 := Lib.hid (HK1d.out.below hb2 HK1d.out.lt); have J2 := Lib.hid (HK2d.out.below hb2 HK2d.out.lt); have hS : U2.cell? ⟨wr.heap.size, 0, none⟩ = some (.int .u64 q) ∧ U2.cell? ⟨wr.heap.size, 1, none⟩ = some (.int .u64 g) ∧ U2.cell? ⟨wr.heap.size, 2, none⟩ = some (.slice F nf cf) := ⟨J1.out.cell 0, J1.out.cell 1, J1.out.cell 2⟩; have d0 := J2.out.cell 0; have d1 := J2.out.cell 1; have d2 := J2.out.cell 2; have f0 := J2.out.frozen 0; have f1 := J2.out.frozen 1; have f2 := J2.out.frozen 2; have s2 := J2.out.lt; clear hb2))
        have J3 := Lib.hid (((J2.out.set_ 0 (.int .u64 q)).set_ 1 (.int .u64 g)).set_ 2 (.slice F2 n2 c2))
        have HB3 := Lib.hid (((HB2.out.setCell (p := ⟨w.heap.size, 0, none⟩) (Nat.le_refl _) (.int .u64 q)).setCell (p := ⟨w.heap.size, 1, none⟩) (Nat.le_refl _) (.int .u64 g)).setCell (p := ⟨w.heap.size, 2, none⟩) (Nat.le_refl _) (.slice F2 n2 c2))
        clear hS d0 d1 d2 f0 f1 f2
        generalize (((U2.setCell ⟨w.heap.size, 0, none⟩ (.int .u64 q)).setCell ⟨w.heap.size, 1, none⟩ (.int .u64 g)).setCell ⟨w.heap.size, 2, none⟩ (.slice F2 n2 c2)) = W3 at *
        have e0 : W3.cell? ⟨w.heap.size, 0, none⟩ = some (.int .u64 q) := J3.out.cell 0
        have e1 : W3.cell? ⟨w.heap.size, 1, none⟩ = some (.int .u64 g) := J3.out.cell 1
        have e2 : W3.cell? ⟨w.heap.size, 2, none⟩ = some (.slice F2 n2 c2) := J3.out.cell 2
        go_wp2_with fail
        exact bodyPost_ret (v := .tuple #[.agg #[.int .u64 q, .int .u64 g, .slice F2 n2 c2], .bool true]) (by simp [results, Tryz.results55, go_sem, e0, e1, e2]) rfl ⟨F2, n2, c2, by rw [HGG.out], HB3.out⟩
      · rw [if_neg hpq] at hix
        have g1 : (((l.getD k .z).p : Int) == (q : Int)) = false := beq_eq_false_iff_ne.2 (by omega)
        have HI2 := Lib.hid hix.symm
        have HK2' := HK2
        clear hpq hix CL
        generalize (l.getD k .z).fs.length = nf at *
        generalize (l.getD k .z).g = g at *
        generalize (l.getD k .z).p = p at *
        go_wp2_with fail
        go_roundw
        case rel => exact ⟨k + 1, by omega, by go_num, HI2, HB1, HK2⟩
        case measure => simp [intOf]; omega
    · exfalso
      have := HI.out
      rw [indexOf_end l q k hlt] at this
      omega
theorem indexOf_spec (l : List Ent) (q : Nat) : ∀ (n i j : Nat), l.length - i = n → indexOf l q i = (j : Int) → j < l.length ∧ (l.getD j .z).p = q
  | 0, i, j, hn, h => by rw [indexOf_end l q i (by omega)] at h; omega
  | n + 1, i, j, hn, h => by
    rw [indexOf_at l q i (by omega)] at h
    split at h
    · rename_i he
      have : i = j := by omega
      subst this
      exact ⟨by omega, he⟩
    · exact indexOf_spec l q n (i + 1) j (by omega) h
set_option maxRecDepth 100000 in
set_option maxHeartbeats 2000000 in
theorem New_ok (A : Option Addr) (cA : Nat) (l : List Ent) (q j : Nat) (w : World) (hl : EI w A l) (hcA : l.length ≤ cA) (hcm : cA ≤ maxLen) (ho : Oks l) (hck : checkS l = (0, 0)) (hj : indexOf l q 0 = (j : Int)) :
    Calls Tryz.prog 22 #[.slice A l.length cA, .int .u64 q] w fun e w' => ∃ gf, e = .returned (.tuple #[.pointer (some ⟨gf, 0, none⟩), .int .i64 0]) ∧ FB w.heap.size w'.heap.size w' gf q (l.getD j .z).g ∧ Below w.heap.size w w' := by
  obtain ⟨hfb, h32⟩ := checkS_none hck
  obtain ⟨hjl, hpj⟩ := indexOf_spec l q _ 0 j rfl hj
  have es := row_right l hfb j hjl
  have s1 := es.odd
  have s2 := es.low
  have s3 := es.high
  rw [hpj] at s1 s2 s3
  clear es
  have hqR : q < Mg.R := by simp only [Mg.R]; omega
  have HL := Lib.hid hl
  have CK := Lib.hid (Check_any A cA l w hl (by omega) hcA hcm ho)
  rw [hck] at CK
  have CC := Lib.hid fun W (h : Below w.heap.size w W) => Claim_ok A cA l q j W (hl.below h) hcA hcm ho hck hj hqR
  have CN := Lib.hid fun W => mNew_ok q W s1 s2 s3
  clear hl ho hck hj hfb hcm hjl hpj hqR s1 s2 s3
  generalize (l.getD j .z).g = g at *
  go_enter Tryz.func22, Tryz.ntmps22
  go_wp2_with fail
  with_reducible refine (CK.out).mono ?_
  rintro e w1 ⟨rfl, hb1⟩
  have B1 := Lib.hid hb1
  clear hb1 CK
  go_wp2_with fail
  with_reducible refine ((CC.out w1 B1.out)).mono ?_
  rintro e w2 ⟨F, n, c, rfl, hb2⟩
  have B2 := Lib.hid (below_then B1.out B1.out.size hb2)
  clear hb2 CC
  have B3 := Lib.hid (below_then B2.out B2.out.size ((Below.refl w2.heap.size w2).alloc (Nat.le_refl _) (.cells #[.int .u64 q, .int .u64 g, .slice F n c] 126)))
  have K3 := Lib.hid (Blk.new w2 126 #[.int .u64 q, .int .u64 g, .slice F n c])
  go_wp2_with fail
  with_reducible refine ((CN.out _)).mono ?_
  rintro e w4 ⟨gc, rfl, hmc, hgc, hb4⟩
  have B4 := Lib.hid (below_then B3.out B3.out.size hb4)
  have K4 := Lib.hid (K3.out.below hb4 K3.out.lt)
  have M4 := Lib.hid hmc
  have G4 := Lib.hid (Nat.le_trans B3.out.size hgc)
  clear hmc hb4 K3 hgc
  have d0 := K4.out.cell 0
  have d1 := K4.out.cell 1
  have d2 := K4.out.cell 2
  have hlt := K4.out.lt
  go_wp2_with fail
  go_ret2
  have hb5 := (Below.refl w4.heap.size w4).alloc (Nat.le_refl _) (.cells #[.pointer (some ⟨gc, 0, none⟩), .int .u64 q, .int .u64 g, .slice F n c] 137)
  have K5 := Blk.new w4 137 #[.pointer (some ⟨gc, 0, none⟩), .int .u64 q, .int .u64 g, .slice F n c]
  have M5 := M4.out.below hb5
  obtain ⟨tt, _, _, d0', _⟩ := M4.out.cells
  have hgl := World.block_lt_of_cell? w4 _ d0'
  exact ⟨w4.heap.size, rfl, ⟨B4.out.size, by simp, ⟨gc, G4.out, by simp; exact Nat.lt_succ_of_lt hgl, M5, K5.cell 0⟩, K5.cell 1, K5.cell 2⟩, below_then B4.out B4.out.size hb5⟩
end Go.Proofs.YtpkpadepccneeaaGreatDoor

/- The walks of the reference's chapter 2: Add, Mul, Pow, modulo any number from 1 on. No condition. -/
namespace Go.Proofs.YtpkpadepccneeaaGreatDoor
open Go.RowKit
set_option linter.unusedVariables false
theorem add_mod_split (x y m : Nat) (hx : x < m) (hy : y < m) : (x + y) % m = if m - y ≤ x then x - (m - y) else x + y := by
  split
  · rename_i h
    rw [Nat.mod_eq_sub_mod (by omega), Nat.mod_eq_of_lt (by omega)]; omega
  · rw [Nat.mod_eq_of_lt (by omega)]
theorem rAdd_any (a b m : Nat) (ha : a < Mg.R) (hb : b < Mg.R) (hm : 1 ≤ m) (hmR : m < Mg.R) (w : World) :
    Calls Tryz.prog 52 #[.int .u64 a, .int .u64 b, .int .u64 m] w fun e w' => e = .returned (.int .u64 (((a + b) % m : Nat) : Int)) ∧ w = w' := by
  have h0 : ¬ (m : Int) = 0 := by omega
  have e1 : (a : Int) % m = ((a % m : Nat) : Int) := by omega
  have e2 : (b : Int) % m = ((b % m : Nat) : Int) := by omega
  have hx := Nat.mod_lt a (show 0 < m by omega)
  have hy := Nat.mod_lt b (show 0 < m by omega)
  rw [Nat.add_mod]
  generalize a % m = x at *
  generalize b % m = y at *
  rw [add_mod_split x y m hx hy]
  have e3 : IntKind.u64.wrap ((m : Int) - y) = ((m - y : Nat) : Int) := by rw [IntKind.wrap_u64]; simp only [Mg.R] at hmR; omega
  generalize hd : m - y = d at *
  by_cases hge : d ≤ x
  · rw [if_pos hge]
    have g1 : decide (d ≤ x) = true := decide_eq_true hge
    have e4 : IntKind.u64.wrap ((x : Int) - d) = ((x - d : Nat) : Int) := by rw [IntKind.wrap_u64]; simp only [Mg.R] at hmR; omega
    clear hd hge
    go_enter Tryz.func52, Tryz.ntmps52
    go_wp2_with fail
    go_ret
    exact ⟨rfl, rfl⟩
  · rw [if_neg hge]
    have g1 : decide (d ≤ x) = false := decide_eq_false hge
    have e4 : IntKind.u64.wrap ((x : Int) + y) = ((x + y : Nat) : Int) := by rw [IntKind.wrap_u64]; simp only [Mg.R] at hmR; omega
    clear hd hge
    go_enter Tryz.func52, Tryz.ntmps52
    go_wp2_with fail
    go_ret
    exact ⟨rfl, rfl⟩
theorem mul_step (o c d m : Nat) : ((if d % 2 = 1 then o + c else o) + (c + c) * (d / 2)) % m = (o + c * d) % m := by
  have h : c * d = (c + c) * (d / 2) + c * (d % 2) := by
    have := Nat.div_add_mod d 2
    calc c * d = c * (2 * (d / 2) + d % 2) := by rw [this]
      _ = _ := by rw [Nat.mul_add, ← Nat.mul_assoc, Nat.mul_two]
  rcases Nat.mod_two_eq_zero_or_one d with h0 | h0
  · rw [h, h0]; simp
  · rw [h, h0]; simp; congr 1; omega
set_option maxHeartbeats 1000000 in
theorem rMul_any (a b m : Nat) (ha : a < Mg.R) (hb : b < Mg.R) (hm : 1 ≤ m) (hmR : m < Mg.R) (w : World) :
    Calls Tryz.prog 53 #[.int .u64 a, .int .u64 b, .int .u64 m] w fun e w' => e = .returned (.int .u64 ((a * b % m : Nat) : Int)) ∧ w = w' := by
  have h0 : ¬ (m : Int) = 0 := by omega
  have e1 : (a : Int) % m = ((a % m : Nat) : Int) := by omega
  have hx := Nat.mod_lt a (show 0 < m by omega)
  have HS := Lib.hid (show (0 + a % m * b) % m = a * b % m by rw [Nat.zero_add, Nat.mod_mul_mod])
  generalize a % m = x at *
  generalize hr : a * b % m = r at *
  have HC := Lib.hid fun (c d : Nat) (hc : c < m) (hd : d < m) => rAdd_any c d m (by omega) (by omega) hm hmR w
  clear hr
  go_enter Tryz.func53, Tryz.ntmps53
  go_wp2_with fail
  go_simp
  go_loop [7, 0, 1] (fun o c d => ∃ x y z : Nat, o = .int .u64 x ∧ c = .int .u64 y ∧ d = .int .u64 z ∧ x < m ∧ y < m ∧ z < Mg.R ∧ Hid ((x + y * z) % m = r)) (fun _ _ d => (intOf d).toNat)
  case atStart => exact ⟨0, x, b, rfl, rfl, rfl, by omega, hx, hb, HS⟩
  case round =>
    clear hx HS hb e1
    obtain ⟨x, y, z, rfl, rfl, rfl, hx, hy, hz, HI⟩ := hrel
    by_cases hz0 : z = 0
    · subst hz0
      have HR := Lib.hid (HI.out.symm.trans (show (x + y * 0) % m = x by rw [Nat.mul_zero, Nat.add_zero, Nat.mod_eq_of_lt hx]))
      go_wp2_with fail
      go_ret
      exact ⟨by rw [HR.out]; rfl, rfl⟩
    · have g0 : decide ((0 : Int) < z) = true := by simp; omega
      have hst := mul_step x y z m
      rw [HI.out] at hst
      have hq : z / 2 < Mg.R := by omega
      have hq2 : z / 2 < z := by omega
      have e2 : (z : Int) / 2 = ((z / 2 : Nat) : Int) := by omega
      have e3 : IntKind.u64.wrap ((z / 2 : Nat) : Int) = ((z / 2 : Nat) : Int) := w_small (Int.natCast_nonneg _) (by simp only [Mg.R] at hq; omega)
      generalize z / 2 = q at *
      have C2 := Lib.hid (HC.out y y hy hy)
      have hy2 : (y + y) % m < m := Nat.mod_lt _ (by omega)
      have hyy : (y + y) % m * q % m = (y + y) * q % m := Nat.mod_mul_mod ..
      by_cases hodd : z % 2 = 1
      · have g1 : ((z : Int) % 2 == 1) = true := beq_iff_eq.2 (by omega)
        rw [if_pos hodd] at hst
        have C1 := Lib.hid (HC.out x y hx hy)
        have hx2 : (x + y) % m < m := Nat.mod_lt _ (by omega)
        have HI2 := Lib.hid (show ((x + y) % m + (y + y) % m * q) % m = r by rw [Nat.add_mod, hyy, Nat.mod_mod, ← Nat.add_mod, hst])
        clear hst hodd hz0 hyy
        generalize (x + y) % m = x2 at *
        generalize (y + y) % m = y2 at *
        go_wp2_with fail
        with_reducible refine (C1.out).mono ?_
        rintro e w' ⟨rfl, rfl⟩
        go_wp2_with fail
        with_reducible refine (C2.out).mono ?_
        rintro e w' ⟨rfl, rfl⟩
        go_wp2_with fail
        go_round
        case rel => exact ⟨x2, y2, q, rfl, rfl, rfl, hx2, hy2, hq, HI2⟩
        case measure => simp [intOf]; omega
      · have g1 : ((z : Int) % 2 == 1) = false := beq_eq_false_iff_ne.2 (by omega)
        rw [if_neg hodd] at hst
        have HI2 := Lib.hid (show (x + (y + y) % m * q) % m = r by rw [Nat.add_mod, hyy, ← Nat.add_mod, hst])
        clear hst hodd hz0 hyy
        generalize (y + y) % m = y2 at *
        go_wp2_with fail
        with_reducible refine (C2.out).mono ?_
        rintro e w' ⟨rfl, rfl⟩
        go_wp2_with fail
        go_round
        case rel => exact ⟨x, y2, q, rfl, rfl, rfl, hx, hy2, hq, HI2⟩
        case measure => simp [intOf]; omega
theorem pow_half (a e m : Nat) : a ^ e % m = if e % 2 = 1 then (a ^ (e / 2) % m * (a ^ (e / 2) % m) % m) * a % m else a ^ (e / 2) % m * (a ^ (e / 2) % m) % m := by
  have h : a ^ e = a ^ (e / 2) * a ^ (e / 2) * a ^ (e % 2) := by
    rw [← Nat.pow_add, ← Nat.pow_add]; congr 1; omega
  rcases Nat.mod_two_eq_zero_or_one e with h0 | h0
  · rw [if_neg (by omega), h, h0, Nat.pow_zero, Nat.mul_one, Nat.mul_mod]
  · rw [if_pos h0, h, h0, Nat.pow_one, Nat.mul_mod (a ^ (e / 2) * a ^ (e / 2)), Nat.mul_mod (a ^ (e / 2)) (a ^ (e / 2)), ← Nat.mul_mod]
    simp [Nat.mul_mod]
set_option maxHeartbeats 1000000 in
theorem rPow_any (a m : Nat) (ha : a < Mg.R) (hm : 1 ≤ m) (hmR : m < Mg.R) (w : World) : ∀ (e : Nat), e < Mg.R →
    Calls Tryz.prog 25 #[.int .u64 a, .int .u64 e, .int .u64 m] w fun e' w' => e' = .returned (.int .u64 ((a ^ e % m : Nat) : Int)) ∧ w = w' := by
  intro e
  induction e using Nat.strongRecOn with
  | _ e ih =>
    intro heR
    have h0 : ¬ (m : Int) = 0 := by omega
    by_cases he : e = 0
    · subst he
      have e1 : (1 : Int) % m = ((1 % m : Nat) : Int) := Int.natCast_emod 1 m |>.symm
      rw [Nat.pow_zero]
      generalize 1 % m = r at *
      clear ih
      go_enter Tryz.func25, Tryz.ntmps25
      go_wp2_with fail
      go_ret
      exact ⟨by rw [← e1]; rfl, rfl⟩
    · have IH := Lib.hid (ih (e / 2) (by omega) (by omega))
      have e2 : (e : Int) / 2 = ((e / 2 : Nat) : Int) := by omega
      have e3 : IntKind.u64.wrap ((e / 2 : Nat) : Int) = ((e / 2 : Nat) : Int) := w_small (Int.natCast_nonneg _) (by simp only [Mg.R] at heR; omega)
      have g0 : ((e : Int) == 0) = false := beq_eq_false_iff_ne.2 (by omega)
      have hp := pow_half a e m
      have hlt : a ^ (e / 2) % m < m := Nat.mod_lt _ (by omega)
      generalize a ^ (e / 2) % m = h at *
      generalize e / 2 = q at *
      have hhR : h < Mg.R := by omega
      have C1 := Lib.hid (rMul_any h h m hhR hhR hm hmR w)
      have hsq : h * h % m < Mg.R := Nat.lt_trans (Nat.mod_lt _ (by omega)) hmR
      generalize h * h % m = s at *
      by_cases hodd : e % 2 = 1
      · have g1 : ((e : Int) % 2 == 1) = true := beq_iff_eq.2 (by omega)
        rw [if_pos hodd] at hp
        have C2 := Lib.hid (rMul_any s a m hsq ha hm hmR w)
        rw [hp]
        generalize s * a % m = t at *
        clear hp ih hodd he hlt hsq hhR
        go_enter Tryz.func25, Tryz.ntmps25
        go_wp2_with fail
        with_reducible refine (IH.out).mono ?_
        rintro e w' ⟨rfl, rfl⟩
        go_wp2_with fail
        with_reducible refine (C1.out).mono ?_
        rintro e w' ⟨rfl, rfl⟩
        go_wp2_with fail
        with_reducible refine (C2.out).mono ?_
        rintro e w' ⟨rfl, rfl⟩
        go_wp2_with fail
        go_ret
        exact ⟨rfl, rfl⟩
      · have g1 : ((e : Int) % 2 == 1) = false := beq_eq_false_iff_ne.2 (by omega)
        rw [if_neg hodd] at hp
        rw [hp]
        clear hp ih hodd he hlt hsq hhR
        go_enter Tryz.func25, Tryz.ntmps25
        go_wp2_with fail
        with_reducible refine (IH.out).mono ?_
        rintro e w' ⟨rfl, rfl⟩
        go_wp2_with fail
        with_reducible refine (C1.out).mono ?_
        rintro e w' ⟨rfl, rfl⟩
        go_wp2_with fail
        go_ret
        exact ⟨rfl, rfl⟩
end Go.Proofs.YtpkpadepccneeaaGreatDoor

/- The walks of field.Divides and field.Root. No condition. -/
namespace Go.Proofs.YtpkpadepccneeaaGreatDoor
open Go.RowKit
set_option linter.unusedVariables false
def divs (p : Nat) (n : Int) : Bool := decide (0 < n) && decide ((p - 1) % n.toNat = 0)
theorem fDivides_rd (gf p g : Nat) (n : Int) (w : World) (hf : FD w gf p g) (hn : n ≤ 9223372036854775807) :
    Rd 46 #[.pointer (some ⟨gf, 0, none⟩), .int .i64 n] w (.bool (divs p n)) := by
  refine Rd.of_same fun q => ?_
  have c1 := hf.cp
  have hl := hf.low
  have hh := hf.high
  clear hf
  by_cases h0 : 0 < n
  · obtain ⟨k, rfl⟩ := Int.eq_ofNat_of_zero_le (show 0 ≤ n by omega)
    have g0 : decide (0 < k) = true := decide_eq_true (by omega)
    have e1 : IntKind.u64.wrap ((p : Int) - 1) = ((p - 1 : Nat) : Int) := by rw [IntKind.wrap_u64]; omega
    have e2 : IntKind.u64.wrap (k : Int) = (k : Int) := w_small (by omega) (by omega)
    have e3 : ((p - 1 : Nat) : Int) % (k : Int) = (((p - 1) % k : Nat) : Int) := (Int.natCast_emod _ _).symm
    have hr : (p - 1) % k < 9223372036854775808 := Nat.lt_of_le_of_lt (Nat.mod_le _ _) (by omega)
    have e4 : IntKind.u64.wrap (((p - 1) % k : Nat) : Int) = (((p - 1) % k : Nat) : Int) := w_small (by omega) (by omega)
    have hk0 : ¬ (k : Int) = 0 := by omega
    have HD := Lib.hid (show divs p (k : Int) = decide ((p - 1) % k = 0) by unfold divs; rw [decide_eq_true h0, Int.toNat_natCast, Bool.true_and])
    generalize (p - 1) % k = r at *
    generalize p - 1 = m at *
    by_cases hr0 : r = 0
    · subst hr0
      have HD2 := Lib.hid (HD.out.trans (by simp : decide (0 = 0) = true))
      go_enter Tryz.func46, Tryz.ntmps46
      go_wp2_with fail
      go_ret
      exact ⟨by rw [HD2.out]; rfl, rfl⟩
    · have g1 : ((r : Int) == 0) = false := beq_eq_false_iff_ne.2 (by omega)
      have HD2 := Lib.hid (HD.out.trans (decide_eq_false hr0))
      clear hr0
      go_enter Tryz.func46, Tryz.ntmps46
      go_wp2_with fail
      go_ret
      exact ⟨by rw [HD2.out]; rfl, rfl⟩
  · have g0 : decide (0 < n) = false := decide_eq_false h0
    have HD := Lib.hid (show divs p n = false by unfold divs; rw [g0]; rfl)
    clear h0
    go_enter Tryz.func46, Tryz.ntmps46
    go_wp2_with fail
    go_ret
    exact ⟨by rw [HD.out]; rfl, rfl⟩
theorem divs_iff {p : Nat} {n : Int} : divs p n = true ↔ 0 < n ∧ (p - 1) % n.toNat = 0 := by unfold divs; simp
theorem fRoot_no (gf p g : Nat) (n : Int) (w : World) (hf : FD w gf p g) (hn : n ≤ 9223372036854775807) (hd : divs p n = false) :
    Rd 24 #[.pointer (some ⟨gf, 0, none⟩), .int .i64 n] w (.tuple #[.int .u64 0, .int .i64 4]) := by
  refine Rd.of_drawn fun q => ?_
  have C := fDivides_rd gf p g n w hf hn
  rw [hd] at C
  clear hf hd
  go_enter Tryz.func24, Tryz.ntmps24
  go_wp2_with fail
  with_reducible refine (Rd.go (C) _).mono ?_
  rintro e_ w_ ⟨rfl, k1, rfl⟩
  go_wp2_with fail
  go_ret2
  exact ⟨rfl, drawn_le (by omega)⟩
theorem fRoot_rd (gf p g k : Nat) (w : World) (hf : FD w gf p g) (hg : g < Mg.R) (hn : k ≤ 9223372036854775807) (hd : divs p (k : Int) = true) :
    Rd 24 #[.pointer (some ⟨gf, 0, none⟩), .int .i64 (k : Int)] w (.tuple #[.int .u64 ((g ^ ((p - 1) / k) % p : Nat) : Int), .int .i64 0]) := by
  refine Rd.of_drawn fun q => ?_
  have C := fDivides_rd gf p g (k : Int) w hf (by omega)
  rw [hd] at C
  obtain ⟨hk, _⟩ := divs_iff.1 hd
  have c1 := hf.cp
  have c2 := hf.cg
  have hl := hf.low
  have hh := hf.high
  have hm : (p - 1) / k < Mg.R := Nat.lt_of_le_of_lt (Nat.div_le_self _ _) (by simp only [Mg.R]; omega)
  have C2 := fPow_rd gf p g g ((p - 1) / k) w hf hg hm
  clear hf hd
  have hk0 : ¬ (k : Int) = 0 := by omega
  have e1 : IntKind.u64.wrap ((p : Int) - 1) = ((p - 1 : Nat) : Int) := by rw [IntKind.wrap_u64]; omega
  have e2 : IntKind.u64.wrap (k : Int) = (k : Int) := w_small (by omega) (by omega)
  have e3 : ((p - 1 : Nat) : Int) / (k : Int) = (((p - 1) / k : Nat) : Int) := (Int.natCast_ediv _ _).symm
  have e4 : IntKind.u64.wrap (((p - 1) / k : Nat) : Int) = (((p - 1) / k : Nat) : Int) := w_small (Int.natCast_nonneg _) (by simp only [Mg.R] at hm; omega)
  generalize g ^ ((p - 1) / k) % p = r at *
  generalize (p - 1) / k = d at *
  generalize p - 1 = m at *
  go_enter Tryz.func24, Tryz.ntmps24
  go_wp2_with fail
  with_reducible refine (Rd.go (C) _).mono ?_
  rintro e_ w_ ⟨rfl, k1, rfl⟩
  go_wp2_with fail
  go_quiet ((go_at_call 57; first | exact Rd.qa (C2) _ _ | exact Rd.q (C2) _))
  go_wp2_with fail
  go_ret2
  exact ⟨rfl, Drawn.trans (drawn_le (by omega)) ⟨_, rfl⟩⟩
end Go.Proofs.YtpkpadepccneeaaGreatDoor
