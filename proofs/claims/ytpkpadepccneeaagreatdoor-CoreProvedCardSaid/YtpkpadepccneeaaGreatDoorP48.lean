/- Entries among a law's arguments, opened: rows of structs of any number of one-cell fields (turned from the kit's howto), factors, entries. No condition. -/
import Derived.Test.YtpkpadepccneeaaGreatDoorP11
import Derived.Deep.Slices
import Derived.Deep.Fields
import Derived.ChangeSame
namespace Go.Proofs.YtpkpadepccneeaaGreatDoor
set_option linter.unusedVariables false
set_option linter.unusedSimpArgs false
open Go.ChangeShapes Go.WideShapes Go.Deep
section
variable {H : Type} {enc : TypeId × Value → H} {P : Program} {w : World} {base : Nat} {spare : Nat → Bool} {held : Bool}
theorem open_rows {t e : TypeId} {fs : Array Field} {fuel : Nat} {cs : List Value} {x : DataW H × List MemPlace} (ht : P.underlying t = some (.slice e)) (he : P.underlying e = some (.struct fs))
    (hone : oneCellFields P fs = true) (hC : P.cellsOf e = fs.size) (h : DataW.trod enc P w base spare held fuel t cs = some x) :
    cs = [.slice none 0 0] ∨
    ∃ (a : Addr) (len cap : Nat), cs = [.slice (some a) len cap] ∧ len ≤ cap ∧ cap ≤ maxLen ∧
      ∀ i, i < len → ∃ n : Nat, ∀ (j : Nat) (f : Field), fs[j]? = some f → ∃ (v : Value) (y : DataW H × List MemPlace), w.cell? (a.add (i * fs.size + j)) = some v ∧ DataW.trod enc P w base spare held n f.type [v] = some y := by
  rcases open_slice ht h with h0 | ⟨a, len, cap, m, n, D, Pl, hcs, hb, hl, hm, hmm, hx, hi⟩
  · exact .inl h0.1
  · refine .inr ⟨a, len, cap, hcs, hl, hm, fun i him => ?_⟩
    have him' : i < m := by rw [hmm]; split <;> omega
    obtain ⟨cs', hc, ht'⟩ := hi i him'
    rw [hC] at hc
    obtain ⟨ys, n', hn', hy, hlen, hyl, hf⟩ := DataW.trod_struct he ht'
    obtain ⟨_, hcl, hat⟩ := World.cells?_some hc
    refine ⟨n', fun j f hj => ?_⟩
    obtain ⟨ho, hk⟩ := hone_of hone j f hj
    have hjl : j < fs.size := (Array.getElem?_eq_some_iff.1 hj).1
    have hcell := hat j hjl
    have hv : cs'[j]? = some (cs'[j]'(by omega)) := List.getElem?_eq_getElem (by omega)
    have h1 := hf j f hj
    rw [ho, hk] at h1
    have hone' : (cs'.drop j).take 1 = [cs'[j]'(by omega)] := by
      rw [List.drop_eq_getElem_cons (by omega)]
      rfl
    rw [hone'] at h1
    have hys : ys[j]? = some (ys[j]'(by omega)) := List.getElem?_eq_getElem (by omega)
    refine ⟨_, _, ?_, h1.trans hys⟩
    rw [← Go.Deep.add_add, hcell, hv]
end
theorem wf_u64 {n : Int} (h : (Lit.int .u64 n).wf = true) : ∃ m : Nat, n = (m : Int) ∧ m < Mg.R := by
  simp [Lit.wf, IntKind.min, IntKind.max, IntKind.signed, IntKind.bits] at h
  exact ⟨n.toNat, by omega, by simp only [Mg.R]; omega⟩
theorem wf_i64 {n : Int} (h : (Lit.int .i64 n).wf = true) : -9223372036854775808 ≤ n ∧ n ≤ 9223372036854775807 := by
  simp [Lit.wf, IntKind.min, IntKind.max, IntKind.signed, IntKind.bits] at h
  omega
theorem list_of {α : Type} (d : α) (R : Nat → α → Prop) : ∀ n : Nat, (∀ i, i < n → ∃ x, R i x) → ∃ l : List α, l.length = n ∧ ∀ i, i < n → R i (l.getD i d)
  | 0, _ => ⟨[], rfl, fun i hi => absurd hi (by omega)⟩
  | n + 1, h => by
    obtain ⟨l, hl, hr⟩ := list_of d R n (fun i hi => h i (by omega))
    obtain ⟨x, hx⟩ := h n (by omega)
    refine ⟨l ++ [x], by simp [hl], fun i hi => ?_⟩
    by_cases e : i = n
    · subst e
      have : (l ++ [x]).getD i d = x := by simp [List.getD, hl]
      rw [this]; exact hx
    · have : (l ++ [x]).getD i d = l.getD i d := by
        simp only [List.getD_eq_getElem?_getD]
        rw [List.getElem?_append_left (by omega)]
      rw [this]; exact hr i (by omega)
theorem spot_zero {w : World} {a : Addr} {v : Value} (h : w.cell? (a.add 0) = some v) : a.spot = none := by
  have := World.cell?_spot h
  simpa [Addr.add] using this
section
variable {H : Type} {enc : TypeId × Value → H} {w : World} {base : Nat} {spare : Nat → Bool} {held : Bool}
theorem open_facs {fuel : Nat} {v : Value} {x : DataW H × List MemPlace} (h : DataW.trod enc Tryz.prog w base spare held fuel 63 [v] = some x) :
    ∃ (F : Option Addr) (fs : List Fac) (c : Nat), v = .slice F fs.length c ∧ fs.length ≤ c ∧ c ≤ maxLen ∧ FI w F fs ∧ ∀ f ∈ fs, f.q < Mg.R := by
  rcases open_rows Tryz.underlying63 Tryz.underlying129 (by kernel_rfl) (by kernel_rfl) h with h0 | ⟨a, len, cap, hcs, hl, hm, hi⟩
  · simp at h0
    exact ⟨none, [], 0, h0, by simp, by simp [maxLen], fun i hi => absurd hi (by simp), fun f hf => by simp at hf⟩
  · simp at hcs
    subst hcs
    obtain ⟨fs, hfl, hR⟩ := list_of Fac.z (fun i (f : Fac) => f.q < Mg.R ∧ w.cell? (a.add (i * 2)) = some (.int .u64 (f.q : Int)) ∧ w.cell? (a.add (i * 2 + 1)) = some (.int .i64 f.e)) len (fun i hlt => by
      obtain ⟨n, hf⟩ := hi i hlt
      obtain ⟨v0, y0, c0, t0⟩ := hf 0 _ rfl
      obtain ⟨v1, y1, c1, t1⟩ := hf 1 _ rfl
      obtain ⟨x0, e0, _, w0⟩ := DataW.trod_int Tryz.underlying22 t0
      obtain ⟨x1, e1, _, w1⟩ := DataW.trod_int Tryz.underlying3 t1
      simp at e0 e1
      subst e0 e1
      obtain ⟨m, rfl, hm'⟩ := wf_u64 w0
      exact ⟨⟨m, x1⟩, hm', c0, c1⟩)
    refine ⟨some a, fs, cap, by rw [hfl], by omega, hm, fun i hlt => ?_, fun f hf => ?_⟩
    · have hs := spot_zero (by have := (hR 0 (by omega)).2.1; simpa using this)
      obtain ⟨_, k0, k1⟩ := hR i (by omega)
      obtain ⟨b, o, s⟩ := a
      simp only at hs
      subst hs
      rw [add_plain] at k0 k1
      exact ⟨b, o, rfl, k0, k1⟩
    · obtain ⟨i, hlt, rfl⟩ := List.getElem_of_mem hf
      have := (hR i (by omega)).1
      rwa [List.getD_eq_getElem?_getD, List.getElem?_eq_getElem hlt] at this
theorem open_ents {fuel : Nat} {v : Value} {x : DataW H × List MemPlace} (h : DataW.trod enc Tryz.prog w base spare held fuel 23 [v] = some x) :
    ∃ (A : Option Addr) (l : List Ent) (c : Nat), v = .slice A l.length c ∧ l.length ≤ c ∧ c ≤ maxLen ∧ EI w A l ∧ Oks l := by
  rcases open_rows Tryz.underlying23 Tryz.underlying65 (by kernel_rfl) (by kernel_rfl) h with h0 | ⟨a, len, cap, hcs, hl, hm, hi⟩
  · simp at h0
    exact ⟨none, [], 0, h0, by simp, by simp [maxLen], fun i hi => absurd hi (by simp), ⟨fun i hi => absurd hi (by simp), fun i hi => absurd hi (by simp), fun i hi => absurd hi (by simp)⟩⟩
  · simp at hcs
    subst hcs
    obtain ⟨l, hfl, hR⟩ := list_of Ent.z (fun i (x : Ent) => x.ok ∧ x.fs.length ≤ maxLen ∧ w.cell? (a.add (i * 3)) = some (.int .u64 (x.p : Int)) ∧ w.cell? (a.add (i * 3 + 1)) = some (.int .u64 (x.g : Int)) ∧
        ∃ F c, w.cell? (a.add (i * 3 + 2)) = some (.slice F x.fs.length c) ∧ x.fs.length ≤ c ∧ FI w F x.fs) len (fun i hlt => by
      obtain ⟨n, hf⟩ := hi i hlt
      obtain ⟨v0, y0, c0, t0⟩ := hf 0 _ rfl
      obtain ⟨v1, y1, c1, t1⟩ := hf 1 _ rfl
      obtain ⟨v2, y2, c2, t2⟩ := hf 2 _ rfl
      obtain ⟨x0, e0, _, w0⟩ := DataW.trod_int Tryz.underlying22 t0
      obtain ⟨x1, e1, _, w1⟩ := DataW.trod_int Tryz.underlying22 t1
      obtain ⟨F, fs, c, rfl, hfc, hcm, hF, hq⟩ := open_facs t2
      simp at e0 e1
      subst e0 e1
      obtain ⟨p, rfl, hp⟩ := wf_u64 w0
      obtain ⟨g, rfl, hg⟩ := wf_u64 w1
      exact ⟨⟨p, g, fs⟩, ⟨hp, hg, hq⟩, by show fs.length ≤ maxLen; omega, c0, c1, F, c, c2, hfc, hF⟩)
    refine ⟨some a, l, cap, by rw [hfl], by omega, hm, fun i hlt => ?_, ?_⟩
    · have hs := spot_zero (by have := (hR 0 (by omega)).2.2.1; simpa using this)
      obtain ⟨_, _, k0, k1, F, c, k2, hfc, hF⟩ := hR i (by omega)
      obtain ⟨b, o, s⟩ := a
      simp only at hs
      subst hs
      rw [add_plain] at k0 k1 k2
      exact ⟨b, o, F, c, rfl, k0, k1, k2, hfc, hF⟩
    · have all := fun i (hlt : i < l.length) => hR i (by omega)
      refine ⟨fun i hlt => ⟨(all i hlt).1.1, (all i hlt).1.2.1⟩, fun i hlt => (all i hlt).1.2.2, fun i hlt => ?_⟩
      have := (all i hlt).2.1
      simp only [maxLen] at this
      omega
end
end Go.Proofs.YtpkpadepccneeaaGreatDoor
