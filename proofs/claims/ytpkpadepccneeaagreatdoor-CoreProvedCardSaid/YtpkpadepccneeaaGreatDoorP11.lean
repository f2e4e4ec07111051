/- The walks of proof.right and proof.Check. No condition. -/
import Derived.Test.YtpkpadepccneeaaGreatDoorP08
import Derived.Test.YtpkpadepccneeaaGreatDoorP09
namespace Go.Proofs.YtpkpadepccneeaaGreatDoor
open Go.RowKit
set_option linter.unusedVariables false
theorem whole_q1 {ah : List Ent} {x : Ent} (h : whole ah x = true) (ha : ∀ i, i < ah.length → 1 ≤ (ah.getD i .z).p) : x.fs.length ≤ 16 ∧ ∀ f ∈ x.fs, 1 ≤ f.q := by
  unfold whole at h
  split at h
  · cases h
  split at h
  · cases h
  split at h
  · cases h
  rename_i h0 h1 h2
  refine ⟨by omega, ?_⟩
  intro f hf
  have h2' : (x.fs.getD 0 .z).q = 2 := Classical.byContradiction fun h => h2 h
  cases hfs : x.fs with
  | nil => rw [hfs] at hf; cases hf
  | cons a r =>
    rw [hfs] at hf h h2'
    rcases List.mem_cons.1 hf with rfl | hf
    · have : f.q = 2 := h2'
      omega
    · obtain ⟨j, hj, he⟩ := (claimed_iff _ _).1 (wholeL_none ah _ _ _ _ h f hf)
      rw [← he]; exact ha j hj
structure Oks (l : List Ent) : Prop where
  p : ∀ i, i < l.length → (l.getD i .z).p < Mg.R ∧ (l.getD i .z).g < Mg.R
  q : ∀ i, i < l.length → ∀ f ∈ (l.getD i .z).fs, f.q < Mg.R
  n : ∀ i, i < l.length → (l.getD i .z).fs.length ≤ 9223372036854775807
set_option maxHeartbeats 1000000 in
theorem right_any (A : Option Addr) (cA : Nat) (ah : List Ent) (x : Ent) (F : Option Addr) (c : Nat) (w : World) (ha : EI w A ah) (hA : ah.length ≤ 9223372036854775806) (hf : FI w F x.fs) (hm : x.fs.length ≤ 9223372036854775807)
    (hp : x.p < Mg.R) (hg : x.g < Mg.R) (hq : ∀ f ∈ x.fs, f.q < Mg.R) (h1 : ∀ i, i < ah.length → 1 ≤ (ah.getD i .z).p) :
    Calls Tryz.prog 54 #[.slice A ah.length cA, .agg #[.int .u64 x.p, .int .u64 x.g, .slice F x.fs.length c]] w fun e w' => e = .returned (.bool (right ah x)) ∧ Below w.heap.size w w' := by
  have HB0 := Lib.hid ((Below.refl w.heap.size w).alloc (Nat.le_refl _) (.cells #[.int .u64 x.p, .int .u64 x.g, .slice F x.fs.length c] 126))
  have K0 := Lib.hid (Blk.new w 126 #[.int .u64 x.p, .int .u64 x.g, .slice F x.fs.length c])
  have HA := Lib.hid ha
  have HF := Lib.hid hf
  have HW : 1 ≤ x.p → ∀ W, EI W A ah → FI W F x.fs → Calls Tryz.prog 97 #[.slice A ah.length cA, .agg #[.int .u64 x.p, .int .u64 x.g, .slice F x.fs.length c]] W fun e w' => e = .returned (.bool (whole ah x)) ∧ Below W.heap.size W w' :=
    fun h0 W e1 e2 => whole_any A cA ah x F c W e1 hA e2 hm h0 hp hq
  have HW := Lib.hid HW
  have HU : x.p % 2 = 1 → 3 ≤ x.p → x.p < 9223372036854775808 → whole ah x = true → ∀ W, FI W F x.fs → Calls Tryz.prog 98 #[.agg #[.int .u64 x.p, .int .u64 x.g, .slice F x.fs.length c]] W fun e w' => e = .returned (.bool (full x)) ∧ Below W.heap.size W w' :=
    fun a1 a2 a3 a4 W e2 => full_any x F c W e2 (whole_q1 a4 h1).1 hg (fun f hf => ⟨(whole_q1 a4 h1).2 f hf, hq f hf⟩) a1 a2 a3
  have HU := Lib.hid HU
  have hand : Hid (bits .and .u64 (x.p : Int) 1 = ((x.p % 2 : Nat) : Int)) := Lib.hid (and_one x.p hp)
  have hr : right ah x = if x.p % 2 = 0 then false else if x.p < 3 then false else if 9223372036854775808 ≤ x.p then false else if x.g < 2 then false else if x.p ≤ x.g then false
    else if ah.length ≠ 0 ∧ x.p ≤ (ah.getD (ah.length - 1) .z).p then false else whole ah x && full x := rfl
  have HP := Lib.hid hp
  have HG := Lib.hid hg
  clear ha hf hp hg hq h1
  generalize x.fs.length = nf at *
  generalize right ah x = res at *
  generalize whole ah x = wh at *
  generalize full x = fu at *
  generalize x.p = p at *
  generalize x.g = g at *
  by_cases c1 : p % 2 = 0
  · rw [if_pos c1] at hr
    have b1 : bits .and .u64 (p : Int) 1 = 0 := by rw [hand.out, c1]; rfl
    have hr := Lib.hid hr
    clear c1
    go_enter Tryz.func54, Tryz.ntmps54
    go_wp2_with fail
    go_ret
    exact ⟨by rw [hr.out]; rfl, HB0.out⟩
  rw [if_neg c1] at hr
  have b1 : bits .and .u64 (p : Int) 1 = 1 := by rw [hand.out, show p % 2 = 1 by omega]; rfl
  have HO := Lib.hid (show p % 2 = 1 by omega)
  by_cases c2 : p < 3
  · rw [if_pos c2] at hr
    have bc2 : decide ((p : Int) < 3) = true := by simp; omega
    have hr := Lib.hid hr
    clear c1 c2
    go_enter Tryz.func54, Tryz.ntmps54
    go_wp2_with fail
    go_ret
    exact ⟨by rw [hr.out]; rfl, HB0.out⟩
  rw [if_neg c2] at hr
  have bc2 : decide ((p : Int) < 3) = false := by simp; omega
  have HL := Lib.hid (show 3 ≤ p by omega)
  have HL1 := Lib.hid (show 1 ≤ p by omega)
  by_cases c3 : 9223372036854775808 ≤ p
  · rw [if_pos c3] at hr
    have bc3 : decide ((9223372036854775808 : Int) ≤ p) = true := by simp; omega
    have hr := Lib.hid hr
    clear c1 c2 c3
    go_enter Tryz.func54, Tryz.ntmps54
    go_wp2_with fail
    go_ret
    exact ⟨by rw [hr.out]; rfl, HB0.out⟩
  rw [if_neg c3] at hr
  have bc3 : decide ((9223372036854775808 : Int) ≤ p) = false := by simp; omega
  have HH := Lib.hid (show p < 9223372036854775808 by omega)
  by_cases c4 : g < 2
  · rw [if_pos c4] at hr
    have bc4 : decide ((g : Int) < 2) = true := by simp; omega
    have hr := Lib.hid hr
    clear c1 c2 c3 c4
    go_enter Tryz.func54, Tryz.ntmps54
    go_wp2_with fail
    go_ret
    exact ⟨by rw [hr.out]; rfl, HB0.out⟩
  rw [if_neg c4] at hr
  have bc4 : decide ((g : Int) < 2) = false := by simp; omega
  by_cases c5 : p ≤ g
  · rw [if_pos c5] at hr
    have bc5 : decide (p ≤ g) = true := by simp; omega
    have hr := Lib.hid hr
    clear c1 c2 c3 c4 c5
    go_enter Tryz.func54, Tryz.ntmps54
    go_wp2_with fail
    go_ret
    exact ⟨by rw [hr.out]; rfl, HB0.out⟩
  rw [if_neg c5] at hr
  have bc5 : decide (p ≤ g) = false := by simp; omega
  clear c1 c2 c3 c4 c5
  have TAIL : ∀ (W : World), Below w.heap.size w W → Blk W w.heap.size 126 #[.int .u64 p, .int .u64 g, .slice F nf c] → True := fun _ _ _ => trivial
  clear TAIL
  by_cases hn : ah.length = 0
  · rw [if_neg (fun h => h.1 hn)] at hr
    have g0 : decide (0 < ah.length) = false := decide_eq_false (by omega)
    have HR := Lib.hid hr
    clear hr hn
    cases wh with
    | true =>
      go_enter Tryz.func54, Tryz.ntmps54
      go_wp2_with fail
      go_quiet (fail)
      go_wp2_with fail
      obtain ⟨V, hV⟩ : ∃ V, (w.alloc (.cells #[.int .u64 p, .int .u64 g, .slice F nf c] 126)).drewN nq = V := ⟨_, rfl⟩
      rw [hV]
      have BV := Lib.hid (show Below w.heap.size w V by rw [← hV]; exact below_drewN HB0.out _)
      have KV := Lib.hid (show Blk V w.heap.size 126 #[.int .u64 p, .int .u64 g, .slice F nf c] by rw [← hV]; exact K0.out)
      clear hV
      have v0 := KV.out.cell 0
      have v1 := KV.out.cell 1
      have v2 := KV.out.cell 2
      have C1 := Lib.hid (HW.out HL1.out V (HA.out.below BV.out) (HF.out.below BV.out))
      go_wp2_with fail
      with_reducible refine (C1.out).mono ?_
      rintro e w1 ⟨rfl, hb1⟩
      have B1 := Lib.hid (below_then BV.out BV.out.size hb1)
      have KB := Lib.hid (KV.out.below hb1 KV.out.lt)
      clear hb1 v0 v1 v2
      have u0 := KB.out.cell 0
      have u1 := KB.out.cell 1
      have u2 := KB.out.cell 2
      have C2 := Lib.hid (HU.out HO.out HL.out HH.out (by trivial) w1 (HF.out.below B1.out))
      go_wp2_with fail
      with_reducible refine (C2.out).mono ?_
      rintro e w2 ⟨rfl, hb2⟩
      have B2 := Lib.hid (below_then B1.out B1.out.size hb2)
      go_wp2_with fail
      go_ret
      exact ⟨by rw [HR.out]; rfl, B2.out⟩
    | false =>
      go_enter Tryz.func54, Tryz.ntmps54
      go_wp2_with fail
      go_quiet (fail)
      go_wp2_with fail
      obtain ⟨V, hV⟩ : ∃ V, (w.alloc (.cells #[.int .u64 p, .int .u64 g, .slice F nf c] 126)).drewN nq = V := ⟨_, rfl⟩
      rw [hV]
      have BV := Lib.hid (show Below w.heap.size w V by rw [← hV]; exact below_drewN HB0.out _)
      have KV := Lib.hid (show Blk V w.heap.size 126 #[.int .u64 p, .int .u64 g, .slice F nf c] by rw [← hV]; exact K0.out)
      clear hV
      have v0 := KV.out.cell 0
      have v1 := KV.out.cell 1
      have v2 := KV.out.cell 2
      have C1 := Lib.hid (HW.out HL1.out V (HA.out.below BV.out) (HF.out.below BV.out))
      go_wp2_with fail
      with_reducible refine (C1.out).mono ?_
      rintro e w1 ⟨rfl, hb1⟩
      have B1 := Lib.hid (below_then BV.out BV.out.size hb1)
      clear hb1
      go_wp2_with fail
      go_ret
      exact ⟨by rw [HR.out]; rfl, B1.out⟩
  · have g0 : decide (0 < ah.length) = true := by simp; omega
    obtain ⟨b, o, F', c', rfl, k1, _, _, _, _⟩ := HA.out (ah.length - 1) (by omega)
    have k1' := bcell HB0.out k1
    have s1 : IntKind.i64.wrap ((ah.length : Int) - 1) = ((ah.length - 1 : Nat) : Int) := by rw [IntWalk.i64_in _ (by omega)]; omega
    have s2 : (0 : Int) ≤ ((ah.length - 1 : Nat) : Int) := by omega
    have s3 : ((ah.length - 1 : Nat) : Int) < ah.length := by omega
    have s4 : ((ah.length - 1 : Nat) : Int).toNat = ah.length - 1 := by omega
    clear k1
    generalize (ah.getD (ah.length - 1) .z).p = pl at *
    generalize hl1 : ah.length - 1 = l1 at *
    have d0 := K0.out.cell 0
    by_cases hle : p ≤ pl
    · rw [if_pos ⟨hn, hle⟩] at hr
      have g1 : decide (p ≤ pl) = true := by simp; omega
      have HR := Lib.hid hr
      clear hr hn hle hl1
      go_enter Tryz.func54, Tryz.ntmps54
      go_wp2_with fail
      go_quiet (fail)
      go_wp2_with fail
      go_ret
      exact ⟨by rw [HR.out]; rfl, below_drewN HB0.out _⟩
    · rw [if_neg (fun h => hle h.2)] at hr
      have g1 : decide (p ≤ pl) = false := by simp; omega
      have HR := Lib.hid hr
      clear hr hn hle hl1
      cases wh with
      | true =>
        go_enter Tryz.func54, Tryz.ntmps54
        go_wp2_with fail
        go_quiet (fail)
        go_wp2_with fail
        obtain ⟨V, hV⟩ : ∃ V, (w.alloc (.cells #[.int .u64 p, .int .u64 g, .slice F nf c] 126)).drewN nq = V := ⟨_, rfl⟩
        rw [hV]
        have BV := Lib.hid (show Below w.heap.size w V by rw [← hV]; exact below_drewN HB0.out _)
        have KV := Lib.hid (show Blk V w.heap.size 126 #[.int .u64 p, .int .u64 g, .slice F nf c] by rw [← hV]; exact K0.out)
        clear hV
        have v0 := KV.out.cell 0
        have v1 := KV.out.cell 1
        have v2 := KV.out.cell 2
        have C1 := Lib.hid (HW.out HL1.out V (HA.out.below BV.out) (HF.out.below BV.out))
        go_wp2_with fail
        with_reducible refine (C1.out).mono ?_
        rintro e w1 ⟨rfl, hb1⟩
        have B1 := Lib.hid (below_then BV.out BV.out.size hb1)
        have KB := Lib.hid (KV.out.below hb1 KV.out.lt)
        clear hb1 v0 v1 v2
        have u0 := KB.out.cell 0
        have u1 := KB.out.cell 1
        have u2 := KB.out.cell 2
        have C2 := Lib.hid (HU.out HO.out HL.out HH.out (by trivial) w1 (HF.out.below B1.out))
        go_wp2_with fail
        with_reducible refine (C2.out).mono ?_
        rintro e w2 ⟨rfl, hb2⟩
        have B2 := Lib.hid (below_then B1.out B1.out.size hb2)
        go_wp2_with fail
        go_ret
        exact ⟨by rw [HR.out]; rfl, B2.out⟩
      | false =>
        go_enter Tryz.func54, Tryz.ntmps54
        go_wp2_with fail
        go_quiet (fail)
        go_wp2_with fail
        obtain ⟨V, hV⟩ : ∃ V, (w.alloc (.cells #[.int .u64 p, .int .u64 g, .slice F nf c] 126)).drewN nq = V := ⟨_, rfl⟩
        rw [hV]
        have BV := Lib.hid (show Below w.heap.size w V by rw [← hV]; exact below_drewN HB0.out _)
        have KV := Lib.hid (show Blk V w.heap.size 126 #[.int .u64 p, .int .u64 g, .slice F nf c] by rw [← hV]; exact K0.out)
        clear hV
        have v0 := KV.out.cell 0
        have v1 := KV.out.cell 1
        have v2 := KV.out.cell 2
        have C1 := Lib.hid (HW.out HL1.out V (HA.out.below BV.out) (HF.out.below BV.out))
        go_wp2_with fail
        with_reducible refine (C1.out).mono ?_
        rintro e w1 ⟨rfl, hb1⟩
        have B1 := Lib.hid (below_then BV.out BV.out.size hb1)
        clear hb1
        go_wp2_with fail
        go_ret
        exact ⟨by rw [HR.out]; rfl, B1.out⟩
theorem firstBad_pos (l : List Ent) (k : Nat) (h : firstBad l 0 = firstBad l k) (hk : k < l.length) (hr : right (l.take k) (l.getD k .z) = true) : firstBad l 0 = firstBad l (k + 1) := by
  rw [h, firstBad_at l k hk, if_pos hr]
theorem take_len {α : Type} (l : List α) (k : Nat) (h : k < l.length) : (l.take k).length = k := by rw [List.length_take]; omega
theorem take_p1 (l : List Ent) (k : Nat) (hk : k < l.length) (h : ∀ j, j < k → 1 ≤ (l.getD j .z).p) : ∀ i, i < (l.take k).length → 1 ≤ ((l.take k).getD i .z).p := by
  intro i hi
  rw [take_len l k hk] at hi
  rw [List.getD_eq_getElem?_getD, List.getElem?_take_of_lt hi, ← List.getD_eq_getElem?_getD]
  exact h i hi
def ckRes : Option Nat → Int × Int | none => (0, 0) | some i => ((i : Int), 3)
set_option maxRecDepth 100000 in
set_option maxHeartbeats 1000000 in
theorem Check_any (A : Option Addr) (cA : Nat) (l : List Ent) (w : World) (hl : EI w A l) (hm : l.length ≤ 9223372036854775806) (hcA : l.length ≤ cA) (hcm : cA ≤ maxLen) (ho : Oks l) :
    Calls Tryz.prog 20 #[.slice A l.length cA] w fun e w' => e = .returned (.tuple #[.int .i64 (checkS l).1, .int .i64 (checkS l).2]) ∧ Below w.heap.size w w' := by
  have hcm : cA ≤ 9223372036854775807 := hcm
  by_cases h32 : 32 < l.length
  · have g0 : decide ((32 : Int) < l.length) = true := by simp; omega
    have hr : checkS l = (0, 13) := by unfold checkS; rw [if_pos h32]
    rw [hr]
    clear hr h32 hl ho
    go_enter Tryz.func20, Tryz.ntmps20
    go_wp2_with fail
    go_ret2
    exact ⟨rfl, Below.refl _ _⟩
  have g0 : decide ((32 : Int) < l.length) = false := by simp; omega
  have hr : checkS l = ckRes (firstBad l 0) := by unfold checkS ckRes; rw [if_neg h32]; cases firstBad l 0 <;> rfl
  generalize checkS l = res at *
  have HR := Lib.hid hr
  have HL := Lib.hid hl
  have HO := Lib.hid ho
  clear hr hl ho h32
  go_enter Tryz.func20, Tryz.ntmps20
  go_wp2_with fail
  go_loopw [11] (fun i wr => ∃ k : Nat, k ≤ l.length ∧ i = .int .i64 k ∧ Hid (firstBad l 0 = firstBad l k) ∧ Hid (∀ j, j < k → 1 ≤ (l.getD j .z).p) ∧ Hid (Below w.heap.size w wr)) (fun i _ => l.length - (intOf i).toNat)
  case atStart => exact ⟨0, by omega, rfl, Lib.hid rfl, Lib.hid (fun j hj => by omega), Lib.hid (Below.refl _ _)⟩
  case round =>
    obtain ⟨k, hk, rfl, HI, HP, HB⟩ := hrel
    by_cases hlt : k < l.length
    · obtain ⟨b, o, F, cf, rfl, c1, c2, c3, hfl, hf⟩ := HL.out k hlt
      have k1 := bcell HB.out c1
      have k2 := bcell HB.out c2
      have k3 := bcell HB.out c3
      have HT := Lib.hid ((HL.out).take k)
      have HF := Lib.hid hf
      have HB1 := Lib.hid (below_then HB.out HB.out.size ((Below.refl wr.heap.size wr).alloc (Nat.le_refl _) (.cells #[.int .u64 (l.getD k .z).p, .int .u64 (l.getD k .z).g, .slice F (l.getD k .z).fs.length cf] 126)))
      have HK1 := Lib.hid (Blk.new wr 126 #[.int .u64 (l.getD k .z).p, .int .u64 (l.getD k .z).g, .slice F (l.getD k .z).fs.length cf])
      have hex : ∀ W, Below w.heap.size w W → Calls Tryz.prog 54 #[.slice (some ⟨b, o, none⟩) k cA, .agg #[.int .u64 (l.getD k .z).p, .int .u64 (l.getD k .z).g, .slice F (l.getD k .z).fs.length cf]] W fun e w' => e = .returned (.bool (right (l.take k) (l.getD k .z))) ∧ Below W.heap.size W w' := by
        intro W hW
        have := right_any (some ⟨b, o, none⟩) cA (l.take k) (l.getD k .z) F cf W (HT.out.below hW) (by rw [take_len l k hlt]; omega) (HF.out.below hW) (HO.out.n k hlt) (HO.out.p k hlt).1 (HO.out.p k hlt).2 (HO.out.q k hlt) (take_p1 l k hlt HP.out)
        rw [take_len l k hlt] at this
        exact this
      have CR := Lib.hid hex
      have hk0 : (0 : Int) ≤ (k : Int) := by omega
      have hkc : (k : Int) ≤ cA := by omega
      have hkn : ((k : Nat) : Int).toNat = k := by omega
      clear c1 c2 c3 hfl hf hex
      have HS1 := Lib.hid (firstBad_pos l k HI.out hlt)
      have HS2 := Lib.hid (fun (h : right (l.take k) (l.getD k .z) = false) => HI.out.trans ((firstBad_at l k hlt).trans (by rw [h, if_neg (by simp)])))
      have HQ := Lib.hid (fun (h : right (l.take k) (l.getD k .z) = true) => show 1 ≤ (l.getD k .z).p from by have := (right_spec h).low; omega)
      generalize hrr : right (l.take k) (l.getD k .z) = rr at *
      clear hrr
      generalize hnf : (l.getD k .z).fs.length = nf at *
      generalize hpp : (l.getD k .z).p = p at *
      generalize hgg : (l.getD k .z).g = g at *
      have HPP := Lib.hid hpp
      clear hnf hpp hgg
      go_upto_region 6 with fail
      generalize wr.alloc (.cells #[.int .u64 p, .int .u64 g, .slice F nf cf] 126) = U at *
      have u0 := HK1.out.cell 0
      have u1 := HK1.out.cell 1
      have u2 := HK1.out.cell 2
      have CU := Lib.hid (CR.out U.drew HB1.out.drew)
      have HB1d := Lib.hid HB1.out.drew
      cases rr with
      | true =>
        go_still_tail 4, (by kernel_rfl)
        change wpList _ _ _ _ _ U.drew
        go_wp2_with fail
        with_reducible refine (CU.out).mono ?_
        rintro e w1 ⟨rfl, hb1⟩
        have B1 := Lib.hid (below_then HB1d.out HB1d.out.size hb1)
        clear hb1
        go_wp2_with fail
        go_roundw
        case rel => exact ⟨k + 1, by omega, by go_num, Lib.hid (HS1.out (by trivial)), Lib.hid (fun j hj => by
          by_cases hjk : j = k
          · subst hjk; rw [HPP.out]; exact HQ.out (by trivial)
          · exact HP.out j (by omega)), B1⟩
        case measure => simp [intOf]; omega
      | false =>
        have HV := HS2.out rfl
        rw [HV] at HR
        have HR2 := Lib.hid HR.out
        go_still_tail 4, (by kernel_rfl)
        change wpList _ _ _ _ _ U.drew
        go_wp2_with fail
        with_reducible refine (CU.out).mono ?_
        rintro e w1 ⟨rfl, hb1⟩
        have B1 := Lib.hid (below_then HB1d.out HB1d.out.size hb1)
        clear hb1
        go_wp2_with fail
        go_ret2
        exact ⟨by rw [HR2.out]; rfl, B1.out⟩
    · have HV := HI.out.trans (firstBad_end l k hlt)
      rw [HV] at HR
      have HR2 := Lib.hid HR.out
      clear HV
      go_wp2_with fail
      go_ret2
      exact ⟨by rw [HR2.out]; rfl, HB.out⟩
end Go.Proofs.YtpkpadepccneeaaGreatDoor
