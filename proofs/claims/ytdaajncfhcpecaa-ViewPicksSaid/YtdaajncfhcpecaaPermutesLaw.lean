/- The walk of the law ViewPermutes. No condition. -/
import Derived.Test.YtdaajncfhcpecaaVPermMath
import Derived.Test.YtdaajncfhcpecaaDenseLaw
namespace Go.Proofs.Ytdaajncfhcpecaa
set_option linter.unusedVariables false
set_option linter.unusedSimpArgs false
open Go.RowKit
open Classical in
/-- Whether the axes are so many, and good. -/
noncomputable def goodB (n : Nat) (axes : List Int) : Bool := decide (axes.length = n ∧ goodAx n axes)
open Classical in
theorem goodB_yes {n : Nat} {axes : List Int} (h : goodB n axes = true) : axes.length = n ∧ goodAx n axes := by
  unfold goodB at h
  exact of_decide_eq_true h
open Classical in
theorem goodB_no {n : Nat} {axes : List Int} (h : goodB n axes = false) : ¬ (axes.length = n ∧ goodAx n axes) := by
  unfold goodB at h
  exact of_decide_eq_false h
/-- Flags of the axes that have come. -/
def SeenA (fs : List Bool) (l : List Int) : Prop := ∀ x : Nat, fs.getD x false = true ↔ (x : Int) ∈ l
theorem SeenA.zero : SeenA (List.replicate 4 false) [] := fun x => by
  rw [List.getD_eq_getElem?_getD, List.getElem?_replicate]
  split <;> simp
theorem SeenA.step {fs : List Bool} {axes : List Int} {i kn : Nat} (h : SeenA fs (axes.take i)) (hi : i < axes.length) (hk : axes.getD i 0 = (kn : Int)) (hl : kn < fs.length) : SeenA (fs.set kn true) (axes.take (i + 1)) := fun x => by
  have he : axes[i] = (kn : Int) := by rw [← hk, List.getD_eq_getElem?_getD, List.getElem?_eq_getElem hi]; rfl
  rw [List.getD_eq_getElem?_getD, List.getElem?_set, List.take_add_one, List.getElem?_eq_getElem hi, he]
  by_cases e : kn = x
  · subst e
    simp [hl]
  · rw [if_neg e, ← List.getD_eq_getElem?_getD, h x]
    simp
    omega
theorem permute_any (o : Int) (A B X : Option Addr) (cp cq cx : Nat) (l s axes : List Int) (w : World) (hr : RI .i64 w A l) (hs : RI .i64 w B s) (hx : RI .i64 w X axes) (hm : l.length ≤ 9223372036854775807) (hms : s.length ≤ 9223372036854775807) (hq : V.check o l s 4096 = 0) (hcx : axes.length ≤ cx) :
    Calls Try.prog 35 #[.agg (view o A l.length cp B s.length cq), .slice X axes.length cx] w fun e w' => ∃ o' A1 n1 c1 A2 n2 c2 x, e = .returned (.tuple #[.agg (view o' A1 n1 c1 A2 n2 c2), .int .i64 x]) ∧ Below w.heap.size w w' ∧
      (goodB l.length axes = true → x = 0 ∧ o = o' ∧ n1 = axes.length ∧ n2 = axes.length ∧ RI .i64 w' A1 (pick l axes) ∧ RI .i64 w' A2 (pick s axes)) ∧ (goodB l.length axes = false → o' = 0 ∧ A1 = none ∧ n1 = 0 ∧ c1 = 0 ∧ A2 = none ∧ n2 = 0 ∧ c2 = 0 ∧ x = 10) := by
  by_cases hl : axes.length = l.length
  · refine (Permute_axes o A B X cp cq cx l s axes w hr hs hx hm hms hq hl hcx).mono ?_
    rintro e w' ⟨hb, ⟨hg, A1, c1, A2, c2, rfl, h1, h2⟩ | ⟨hng, rfl⟩⟩
    · refine ⟨_, _, _, _, _, _, _, _, rfl, hb, fun _ => ⟨rfl, rfl, rfl, rfl, h1.ri, h2.ri⟩, fun h => ?_⟩
      exact absurd ⟨hl, hg⟩ (goodB_no h)
    · refine ⟨0, none, 0, 0, none, 0, 0, 10, rfl, hb, fun h => absurd (goodB_yes h).2 hng, fun _ => ⟨rfl, rfl, rfl, rfl, rfl, rfl, rfl, rfl⟩⟩
  · refine (Permute_len o A B X cp cq cx axes.length l s w hr hs hm hms hq hl).mono ?_
    rintro e w' ⟨rfl, hb⟩
    exact ⟨0, none, 0, 0, none, 0, 0, 10, rfl, hb, fun h => absurd (goodB_yes h).1 hl, fun _ => ⟨rfl, rfl, rfl, rfl, rfl, rfl, rfl, rfl⟩⟩
theorem St.two {w U U' : World} {t : TypeId} {cs : Array Value} (h : St w U t cs) (n : Nat) (hn : n ≤ U.heap.size) (hw : w.heap.size < n) (k : Below n U U') : St w U' t cs :=
  ⟨h.low.trans ⟨k.os, k.tape, k.output, k.size, fun i hi => k.block i (by omega)⟩, h.blk.below k (by omega)⟩
set_option maxHeartbeats 4000000 in
theorem permutes_law (o : Int) (A B X : Option Addr) (cp cq cx : Nat) (l s axes : List Int) (w : World) (hr : RI .i64 w A l) (hs : RI .i64 w B s) (hx : RI .i64 w X axes) (hcap : l.length ≤ cp) (hcx : axes.length ≤ cx) (hm : l.length ≤ 9223372036854775807) (hms : s.length ≤ 9223372036854775807) (hmx : axes.length ≤ 9223372036854775807) :
    Calls Try.prog 9 #[.agg (view o A l.length cp B s.length cq), .slice X axes.length cx] w fun e w' => e = .returned (.bool true) ∧ Below w.heap.size w w' := by
  have HT0 := Lib.hid (St.new w 47 (view o A l.length cp B s.length cq))
  have HR := Lib.hid fun U (h : Below w.heap.size w U) => And.intro (hr.below h) (And.intro (hs.below h) (hx.below h))
  have CE := Lib.hid fun (hq : V.check o l s 4096 ≠ 0) U (h : Below w.heap.size w U) => Permute_err o A B X cp cq cx axes.length l s U (hr.below h) (hs.below h) hm hms hq
  have CP := Lib.hid fun (hq : V.check o l s 4096 = 0) U (h : Below w.heap.size w U) => permute_any o A B X cp cq cx l s axes U (hr.below h) (hs.below h) (hx.below h) hm hms hq hcx
  have CR := Lib.hid fun U (h : Below w.heap.size w U) => refCheck_any o A B cp cq l s 4096 U (hr.below h) (hs.below h) hcap hm hms
  have CK := Lib.hid fun U o A1 c1 A2 c2 (l s : List Int) (h1 : RI .i64 U A1 l) (h2 : RI .i64 U A2 s) (hm : l.length ≤ 9223372036854775807) (hms : s.length ≤ 9223372036854775807) => Check_any o A1 A2 c1 c2 l s 4096 U h1 h2 hm hms
  have HZ := Lib.hid (V.check_zero (o := o) (l := l) (s := s) (c := 4096))
  have HPC := Lib.hid (V.pick_check (o := o) (l := l) (s := s) (axes := axes))
  have CO := Lib.hid fun U => of_any o A B l.length cp s.length cq U
  have CG := Lib.hid fun U => great_any o A B l.length cp s.length cq U
  clear hr hs hx hm hms hmx
  go_enter Try.func9, Try.ntmps9
  go_wp2_with fail
  with_reducible refine (alive8_any _).mono ?_
  rintro e w1 ⟨rfl, hb1⟩
  have HT1 := Lib.hid (HT0.out.step hb1)
  clear hb1
  have a0 := HT1.out.blk.cell 0
  have a1 := HT1.out.blk.cell 1
  have a2 := HT1.out.blk.cell 2
  go_wp2_with fail
  with_reducible refine (CG.out _).mono ?_
  rintro e w2 ⟨rfl, hb2⟩
  have HT2 := Lib.hid (HT1.out.step hb2)
  clear hb2 a0 a1 a2 CG
  by_cases hg : 20 < l.length ∨ 20 < s.length
  · have hd := decide_eq_true hg
    rw [hd]
    clear hd hg
    go_wp2_with fail
    go_ret
    exact ⟨rfl, HT2.out.low⟩
  have hd := decide_eq_false hg
  rw [hd]
  clear hd hg
  by_cases hg2 : (20 : Int) < (axes.length : Int)
  · have hd := decide_eq_true hg2
    clear hg2
    go_wp2_with fail
    go_ret
    exact ⟨rfl, HT2.out.low⟩
  have hd := decide_eq_false hg2
  have hx20 : axes.length ≤ 20 := by omega
  clear hg2
  have a0 := HT2.out.blk.cell 0
  have a1 := HT2.out.blk.cell 1
  have a2 := HT2.out.blk.cell 2
  go_wp2_with fail
  with_reducible refine (CO.out _).mono ?_
  rintro e w3 ⟨rfl, hb3⟩
  have HT3 := Lib.hid (HT2.out.step hb3)
  clear hb3 a0 a1 a2 CO
  by_cases hq : V.check o l s 4096 = 0
  · have CP1 := Lib.hid (CP.out hq w3 HT3.out.low)
    rw [hq] at CR
    obtain ⟨hls, hok, _⟩ := HZ.out hq
    have HPQ := Lib.hid (HPC.out hq)
    have h4 := hok.1
    have HLS := Lib.hid hls
    clear CE CP HZ HPC hok hls hq
    go_wp2_with fail
    with_reducible refine CP1.out.mono ?_
    rintro e w4 ⟨o', A1, n1, c1, A2, n2, c2, x, rfl, hb4, hyes, hno⟩
    have HYES := Lib.hid hyes
    have HNO := Lib.hid hno
    have HT4 := Lib.hid (HT3.out.step hb4)
    clear hb4 hyes hno CP1
    have HT5 := Lib.hid (HT4.out.step ((Below.refl w4.heap.size w4).alloc (Nat.le_refl _) (.cells (view o' A1 n1 c1 A2 n2 c2) 49)))
    have HK5 := Lib.hid (Blk.new w4 49 (view o' A1 n1 c1 A2 n2 c2))
    have HD5 := Lib.hid ((Below.refl w4.heap.size w4).alloc (Nat.le_refl _) (.cells (view o' A1 n1 c1 A2 n2 c2) 49))
    have a0 := HT5.out.blk.cell 0
    have a1 := HT5.out.blk.cell 1
    have a2 := HT5.out.blk.cell 2
    go_wp2_with fail
    with_reducible refine (CR.out _ HT5.out.low).mono ?_
    rintro e w6 ⟨rfl, hb6⟩
    have HT6 := Lib.hid (HT5.out.step hb6)
    have HK6 := Lib.hid (HK5.out.below hb6 HK5.out.lt)
    have HD6 := Lib.hid (below_then HD5.out HD5.out.size hb6)
    clear hb6 a0 a1 a2 HT5 HK5 HD5 CR HT0 HT1 HT2 HT3 HT4
    have a1 := HT6.out.blk.cell 1
    obtain ⟨g0, hg0⟩ : ∃ g0, ((axes.length : Int) == (l.length : Int)) = g0 := ⟨_, rfl⟩
    have HS0 := Lib.hid SeenA.zero
    have HF0 := Lib.hid (show Blk (w6.alloc (.cells (flags (List.replicate 4 false)) 61)) w6.heap.size 61 _ from Blk.new w6 61 _)
    have HB0 := Lib.hid ((Below.refl w6.heap.size w6).alloc (Nat.le_refl _) (.cells (flags (List.replicate 4 false)) 61))
    cases hG : goodB l.length axes with
    | true =>
      obtain ⟨rfl, rfl, rfl, rfl, hra1, hra2⟩ := HYES.out hG
      obtain ⟨hlx, hga⟩ := goodB_yes hG
      have HGA := Lib.hid hga
      obtain rfl : g0 = true := by rw [← hg0]; simp [hlx]
      have HLX := Lib.hid hlx
      have HRA1 := Lib.hid hra1
      have HRA2 := Lib.hid hra2
      have hpl : (pick l axes).length = axes.length := by simp [pick]
      have hps : (pick s axes).length = axes.length := by simp [pick]
      have hckk := fun U h1 h2 => CK.out U o A1 c1 A2 c2 (pick l axes) (pick s axes) h1 h2 (by omega) (by omega)
      rw [hpl, hps, HPQ.out hga hlx] at hckk
      have CKK := Lib.hid hckk
      have HPL := Lib.hid hpl
      have HPS := Lib.hid hps
      clear HYES HNO hG hga hlx hra1 hra2 hpl hps hckk CK HPQ
      go_wp2_with fail
      go_loopw [8, 49] (fun g n wr => ∃ (i : Nat) (fs : List Bool), i ≤ axes.length ∧ g = .bool true ∧ n = .int .i64 i ∧ fs.length = 4 ∧ Hid (SeenA fs (axes.take i)) ∧ Hid (Blk wr w6.heap.size 61 (flags fs)) ∧ Hid (Below w6.heap.size w6 wr)) (fun _ n _ => axes.length - (intOf n).toNat)
      case atStart => exact ⟨0, List.replicate 4 false, by omega, rfl, rfl, rfl, HS0, HF0, HB0⟩
      case round =>
        obtain ⟨i, fs, hi, rfl, rfl, hfl, HSE, HF, HBr⟩ := hrel
        have HBW := Lib.hid (below_then HT6.out.low HT6.out.low.size HBr.out)
        by_cases hlt : i < axes.length
        · obtain ⟨xd, rfl, hxc⟩ := (HR.out _ HBW.out).2.2.at_ hlt
          have hgi := HGA.out i hlt
          obtain ⟨kn, hkn⟩ : ∃ kn : Nat, axes.getD i 0 = (kn : Int) := ⟨(axes.getD i 0).toNat, by omega⟩
          have hkl : kn < l.length := by omega
          have hkf : kn < fs.length := by omega
          have hfk := (HF.out.cell kn).trans (flags_get fs hkf)
          have hfv : fs.getD kn false = false := by
            cases hb : fs.getD kn false with
            | false => rfl
            | true => exact absurd ((HSE.out kn).1 hb) (by rw [← hkn]; exact hgi.2.2)
          rw [hfv] at hfk
          have hff := HF.out.frozen kn
          have HSE2 := Lib.hid (HSE.out.step hlt hkn hkf)
          have HFS := Lib.hid (show Blk (wr.setCell ⟨w6.heap.size, kn, none⟩ (.bool true)) w6.heap.size 61 (flags (fs.set kn true)) from by
            have h := HF.out.set_ kn (.bool true)
            rw [flags_set] at h
            exact h)
          have HBS := Lib.hid (HBr.out.setCell (p := ⟨w6.heap.size, kn, none⟩) (Nat.le_refl _) (.bool true))
          have hsl : (fs.set kn true).length = 4 := by rw [List.length_set]; exact hfl
          have a1 := (HT6.out.blk.below HBr.out HT6.out.blk.lt).cell 1
          rw [hkn] at hxc
          have hi0 : (0 : Int) ≤ (i : Int) := by omega
          have hi1 : (i : Int) < (axes.length : Int) := by omega
          have hk0 : (0 : Int) ≤ (kn : Int) := by omega
          have hk1 : (kn : Int) < (l.length : Int) := by omega
          have hk4 : (kn : Int) < 4 := by omega
          have hd : decide ((kn : Int) < 0) = false := by simp
          have hd2 : decide ((l.length : Int) ≤ (kn : Int)) = false := by simp; omega
          clear hgi hkn hfv hkl hkf hfl
          go_wp2_with fail
          go_roundw
          case rel => exact ⟨i + 1, _, by omega, rfl, by go_num, hsl, HSE2, HFS, HBS⟩
          case measure => simp [intOf]; omega
        · obtain rfl : i = axes.length := by omega
          have b0 := (HK6.out.below HBr.out HK6.out.lt).cell 0
          have b1 := (HK6.out.below HBr.out HK6.out.lt).cell 1
          have b2 := (HK6.out.below HBr.out HK6.out.lt).cell 2
          go_wp2_with fail
          go_loopw [98] (fun n wq => ∃ i : Nat, i ≤ axes.length ∧ n = .int .i64 i ∧ Hid (Below w6.heap.size w6 wq)) (fun n _ => axes.length - (intOf n).toNat)
          case atStart => exact ⟨0, by omega, rfl, HBr⟩
          case round =>
            obtain ⟨i, hi, rfl, HBq⟩ := hrel
            clear b0 b1 b2
            have HBW2 := Lib.hid (below_then HT6.out.low HT6.out.low.size HBq.out)
            have HB4 := Lib.hid (below_then HD6.out HD6.out.size HBq.out)
            have b0 := (HK6.out.below HBq.out HK6.out.lt).cell 0
            have b1 := (HK6.out.below HBq.out HK6.out.lt).cell 1
            have b2 := (HK6.out.below HBq.out HK6.out.lt).cell 2
            have a0 := (HT6.out.blk.below HBq.out HT6.out.blk.lt).cell 0
            have a1 := (HT6.out.blk.below HBq.out HT6.out.blk.lt).cell 1
            have a2 := (HT6.out.blk.below HBq.out HT6.out.blk.lt).cell 2
            by_cases hlt : i < axes.length
            · have hgi := HGA.out i hlt
              obtain ⟨kn, hkn⟩ : ∃ kn : Nat, axes.getD i 0 = (kn : Int) := ⟨(axes.getD i 0).toNat, by omega⟩
              have hkl : kn < l.length := by omega
              have hks : kn < s.length := by rw [← HLS.out]; exact hkl
              obtain ⟨xd, hX, hxc⟩ := (HR.out _ HBW2.out).2.2.at_ hlt
              obtain ⟨ad, hA, hac⟩ := (HR.out _ HBW2.out).1.at_ hkl
              obtain ⟨bd, hB, hbc⟩ := (HR.out _ HBW2.out).2.1.at_ hks
              obtain ⟨pd, hP, hpc⟩ := (HRA1.out.below HB4.out).at_ (i := i) (by rw [HPL.out]; exact hlt)
              obtain ⟨qd, hQ, hqc⟩ := (HRA2.out.below HB4.out).at_ (i := i) (by rw [HPS.out]; exact hlt)
              rw [V.pick_get l axes hlt, hkn, Int.toNat_natCast] at hpc
              rw [V.pick_get s axes hlt, hkn, Int.toNat_natCast] at hqc
              rw [hkn] at hxc
              subst hX hA hB hP hQ
              have hi0 : (0 : Int) ≤ (i : Int) := by omega
              have hi1 : (i : Int) < (axes.length : Int) := by omega
              have hk0 : (0 : Int) ≤ (kn : Int) := by omega
              have hk1 : (kn : Int) < (l.length : Int) := by omega
              have hk2 : (kn : Int) < (s.length : Int) := by omega
              clear hgi hkn hkl hks
              generalize l.getD kn 0 = y1 at *
              generalize s.getD kn 0 = y2 at *
              go_wp2_with fail
              go_quiet (fail)
              go_wp2_with fail
              go_roundw
              case rel => exact ⟨i + 1, by omega, by go_num, Lib.hid ⟨HBq.out.os, HBq.out.tape, HBq.out.output, HBq.out.size, HBq.out.block⟩⟩
              case measure => simp [intOf]; omega
            · go_wp2_with fail
              with_reducible refine (CKK.out _ (HRA1.out.below HB4.out) (HRA2.out.below HB4.out)).mono ?_
              rintro e w7 ⟨rfl, hb7⟩
              have HB7 := Lib.hid (below_then HBW2.out HBW2.out.size hb7)
              clear hb7
              go_wp2_with fail
              go_ret
              exact ⟨rfl, HB7.out⟩
    | false =>
      obtain ⟨rfl, rfl, rfl, rfl, rfl, rfl, rfl, rfl⟩ := HNO.out hG
      have HNG := Lib.hid (goodB_no hG)
      clear HYES HNO hG
      have HG0 := Lib.hid (show g0 = true → axes.length = l.length from fun h => by rw [← hg0] at h; have := eq_of_beq h; omega)
      have hg01 : (!g0) = (!g0) := rfl
      go_wp2_with fail
      go_loopw [8, 49] (fun g n wr => ∃ (i : Nat) (fs : List Bool), i ≤ axes.length ∧ g = .bool g0 ∧ n = .int .i64 i ∧ fs.length = 4 ∧ Hid (SeenA fs (axes.take i)) ∧ Hid (∀ j, j < i → 0 ≤ axes.getD j 0 ∧ axes.getD j 0 < l.length ∧ axes.getD j 0 ∉ axes.take j) ∧ Hid (Blk wr w6.heap.size 61 (flags fs)) ∧ Hid (Below w6.heap.size w6 wr)) (fun _ n _ => axes.length - (intOf n).toNat)
      case atStart => exact ⟨0, List.replicate 4 false, by omega, rfl, rfl, rfl, HS0, Lib.hid (fun j hj => absurd hj (by omega)), HF0, HB0⟩
      case round =>
        obtain ⟨i, fs, hi, rfl, rfl, hfl, HSE, HPG, HF, HBr⟩ := hrel
        have HBW := Lib.hid (below_then HT6.out.low HT6.out.low.size HBr.out)
        have b0 := (HK6.out.below HBr.out HK6.out.lt).cell 0
        have b1 := (HK6.out.below HBr.out HK6.out.lt).cell 1
        have b2 := (HK6.out.below HBr.out HK6.out.lt).cell 2
        have a1 := (HT6.out.blk.below HBr.out HT6.out.blk.lt).cell 1
        by_cases hlt : i < axes.length
        · obtain ⟨xd, rfl, hxc⟩ := (HR.out _ HBW.out).2.2.at_ hlt
          have hi0 : (0 : Int) ≤ (i : Int) := by omega
          have hi1 : (i : Int) < (axes.length : Int) := by omega
          by_cases hk0 : axes.getD i 0 < 0
          · have hd := decide_eq_true hk0
            clear hk0
            generalize axes.getD i 0 = k at *
            go_wp2_with fail
            with_reducible refine (empty_no _).mono ?_
            rintro e w7 ⟨rfl, hb7⟩
            have HB7 := Lib.hid (below_then HBW.out HBW.out.size hb7)
            clear hb7
            go_wp2_with fail
            go_ret
            exact ⟨rfl, HB7.out⟩
          · have hd := decide_eq_false hk0
            by_cases hk1 : (l.length : Int) ≤ axes.getD i 0
            · have hd2 := decide_eq_true hk1
              clear hk0 hk1
              generalize axes.getD i 0 = k at *
              go_wp2_with fail
              with_reducible refine (empty_no _).mono ?_
              rintro e w7 ⟨rfl, hb7⟩
              have HB7 := Lib.hid (below_then HBW.out HBW.out.size hb7)
              clear hb7
              go_wp2_with fail
              go_ret
              exact ⟨rfl, HB7.out⟩
            · have hd2 := decide_eq_false hk1
              obtain ⟨kn, hkn⟩ : ∃ kn : Nat, axes.getD i 0 = (kn : Int) := ⟨(axes.getD i 0).toNat, by omega⟩
              have hkl : kn < l.length := by omega
              have hkf : kn < fs.length := by omega
              have hfk := (HF.out.cell kn).trans (flags_get fs hkf)
              have HSEk := Lib.hid (HSE.out kn)
              have hff := HF.out.frozen kn
              have HSE2 := Lib.hid (HSE.out.step hlt hkn hkf)
              have HFS := Lib.hid (show Blk (wr.setCell ⟨w6.heap.size, kn, none⟩ (.bool true)) w6.heap.size 61 (flags (fs.set kn true)) from by
                have h := HF.out.set_ kn (.bool true)
                rw [flags_set] at h
                exact h)
              have HBS := Lib.hid (HBr.out.setCell (p := ⟨w6.heap.size, kn, none⟩) (Nat.le_refl _) (.bool true))
              have hsl : (fs.set kn true).length = 4 := by rw [List.length_set]; exact hfl
              have HKN := Lib.hid hkn
              rw [hkn] at hxc hd hd2
              have hk0' : (0 : Int) ≤ (kn : Int) := by omega
              have hk1' : (kn : Int) < (l.length : Int) := by omega
              have hk4 : (kn : Int) < 4 := by omega
              clear hkn hkf hfl hk0 hk1
              generalize fs.getD kn false = b at *
              cases b with
              | true =>
                clear hkl
                go_wp2_with fail
                with_reducible refine (empty_no _).mono ?_
                rintro e w7 ⟨rfl, hb7⟩
                have HB7 := Lib.hid (below_then HBW.out HBW.out.size hb7)
                clear hb7
                go_wp2_with fail
                go_ret
                exact ⟨rfl, HB7.out⟩
              | false =>
                have HPG2 := Lib.hid (show ∀ j, j < i + 1 → 0 ≤ axes.getD j 0 ∧ axes.getD j 0 < l.length ∧ axes.getD j 0 ∉ axes.take j from fun j hj => by
                  by_cases e : j = i
                  · subst e
                    rw [HKN.out]
                    exact ⟨by omega, by omega, fun hm => by have := HSEk.out.2 hm; cases this⟩
                  · exact HPG.out j (by omega))
                clear hkl
                go_wp2_with fail
                go_roundw
                case rel => exact ⟨i + 1, _, by omega, rfl, by go_num, hsl, HSE2, HPG2, HFS, HBS⟩
                case measure => simp [intOf]; omega
        · obtain rfl : i = axes.length := by omega
          obtain rfl : g0 = false := by
            cases g0 with
            | false => rfl
            | true => exact absurd ⟨HG0.out rfl, by have := HG0.out rfl; exact HPG.out⟩ HNG.out
          go_wp2_with fail
          with_reducible refine (empty_no _).mono ?_
          rintro e w7 ⟨rfl, hb7⟩
          have HB7 := Lib.hid (below_then HBW.out HBW.out.size hb7)
          clear hb7
          go_wp2_with fail
          go_ret
          exact ⟨rfl, HB7.out⟩
  · have CE1 := Lib.hid (CE.out hq w3 HT3.out.low)
    clear CE CP HZ HPC
    have hq1 : (V.check o l s 4096 != 0) = true := by simp [hq]
    have hq2 : (V.check o l s 4096 == 0) = false := by simp [hq]
    clear hq
    generalize V.check o l s 4096 = q at *
    go_wp2_with fail
    with_reducible refine CE1.out.mono ?_
    rintro e w4 ⟨rfl, hb4⟩
    have HT4 := Lib.hid (HT3.out.step hb4)
    clear hb4 CE1
    have HT5 := Lib.hid (HT4.out.step ((Below.refl w4.heap.size w4).alloc (Nat.le_refl _) (.cells noView 49)))
    have HK5 := Lib.hid (Blk.new w4 49 noView)
    have a0 := HT5.out.blk.cell 0
    have a1 := HT5.out.blk.cell 1
    have a2 := HT5.out.blk.cell 2
    go_wp2_with fail
    with_reducible refine (CR.out _ HT5.out.low).mono ?_
    rintro e w6 ⟨rfl, hb6⟩
    have HT6 := Lib.hid (HT5.out.step hb6)
    have HK6 := Lib.hid (HK5.out.below hb6 HK5.out.lt)
    clear hb6 a0 a1 a2
    have k0 := HK6.out.cell 0
    have k1 := HK6.out.cell 1
    have k2 := HK6.out.cell 2
    go_wp2_with fail
    with_reducible refine (empty_no _).mono ?_
    rintro e w7 ⟨rfl, hb7⟩
    have HT7 := Lib.hid (HT6.out.step hb7)
    clear hb7
    go_wp2_with fail
    go_ret
    exact ⟨rfl, HT7.out.low⟩
end Go.Proofs.Ytdaajncfhcpecaa
