/- Plain words of chapter 9's Swap: tables that have each number once, cycles. No condition. -/
import Derived.Test.YtmofdjddjkjogaaDMath
namespace Go.Proofs.Ytmofdjddjkjogaa.Sw
set_option linter.unusedVariables false
set_option linter.unusedSimpArgs false
theorem getD_mem {l : List Int} {k : Nat} (h : k < l.length) : l.getD k 0 ∈ l := by
  rw [List.getD_eq_getElem?_getD, List.getElem?_eq_getElem h]; exact List.getElem_mem h
theorem take_next (l : List Int) {k : Nat} (h : k < l.length) : l.take (k + 1) = l.take k ++ [l.getD k 0] := by
  rw [List.take_add_one, List.getElem?_eq_getElem h, List.getD_eq_getElem?_getD, List.getElem?_eq_getElem h]; rfl
/-- Each entry is a number below the length, and none comes twice. -/
def good (t : List Int) : Prop := ∀ i, i < t.length → 0 ≤ t.getD i 0 ∧ t.getD i 0 < t.length ∧ t.getD i 0 ∉ t.take i
/-- Each number below the length comes once. -/
def once (t : List Int) : Prop := ∀ k : Nat, k < t.length → t.count (k : Int) = 1
theorem good.ne {t : List Int} (h : good t) {i j : Nat} (hij : i < j) (hj : j < t.length) : t.getD i 0 ≠ t.getD j 0 := fun e => by
  apply (h j hj).2.2
  rw [← e, List.getD_eq_getElem?_getD, List.getElem?_eq_getElem (by omega : i < t.length), Option.getD_some, List.mem_take_iff_getElem]
  exact ⟨i, by omega, rfl⟩
theorem good.nodup {t : List Int} (h : good t) : t.Nodup := by
  rw [List.Nodup, List.pairwise_iff_getElem]
  intro i j hi hj hij
  have := h.ne hij hj
  rw [List.getD_eq_getElem?_getD, List.getD_eq_getElem?_getD, List.getElem?_eq_getElem hi, List.getElem?_eq_getElem hj] at this
  exact this
def nums (n : Nat) : List Int := (List.range n).map Int.ofNat
theorem nums_nodup (n : Nat) : (nums n).Nodup := by
  rw [List.Nodup, List.pairwise_iff_getElem]
  intro i j hi hj hij
  simp [nums]
  omega
theorem mem_nums {n : Nat} {x : Int} : x ∈ nums n ↔ 0 ≤ x ∧ x < n := by
  simp only [nums, List.mem_map, List.mem_range]
  constructor
  · rintro ⟨k, hk, rfl⟩
    exact ⟨Int.natCast_nonneg k, by show (k : Int) < n; omega⟩
  · rintro ⟨h0, h1⟩
    exact ⟨x.toNat, by omega, by show ((x.toNat : Nat) : Int) = x; omega⟩
theorem nums_length (n : Nat) : (nums n).length = n := by simp [nums]
theorem good.range {t : List Int} (h : good t) {x : Int} (hx : x ∈ t) : 0 ≤ x ∧ x < t.length := by
  obtain ⟨i, hi, rfl⟩ := List.getElem_of_mem hx
  have := h i hi
  rw [List.getD_eq_getElem?_getD, List.getElem?_eq_getElem hi, Option.getD_some] at this
  exact ⟨this.1, this.2.1⟩
theorem good_once {t : List Int} : good t ↔ once t := by
  constructor
  · intro h k hk
    rw [h.nodup.count]
    refine if_pos (Classical.byContradiction fun hno => ?_)
    have h1 : ((k : Int) :: t).Nodup := List.nodup_cons.2 ⟨hno, h.nodup⟩
    have h2 : ((k : Int) :: t) ⊆ nums t.length := fun x hx => by
      rw [mem_nums]
      rcases List.mem_cons.1 hx with rfl | hx
      · exact ⟨by omega, by omega⟩
      · exact h.range hx
    have h3 := h1.length_le_of_subset h2
    rw [nums_length] at h3
    simp at h3
    omega
  · intro h
    have hsub : ∀ x, x ∈ nums t.length → x ∈ t := fun x hx => by
      obtain ⟨h0, h1⟩ := mem_nums.1 hx
      have := h x.toNat (by omega)
      rw [show ((x.toNat : Nat) : Int) = x by omega] at this
      exact List.count_pos_iff.1 (by omega)
    have hin : ∀ x ∈ t, x ∈ nums t.length := fun x hx => Classical.byContradiction fun hno => by
      have h2 : nums t.length ⊆ t.erase x := fun y hy => (List.mem_erase_of_ne (show y ≠ x from fun e => hno (by rw [← e]; exact hy))).2 (hsub y hy)
      have h3 := (nums_nodup t.length).length_le_of_subset h2
      rw [nums_length, List.length_erase_of_mem hx] at h3
      have := List.length_pos_of_mem hx
      omega
    have hnd : t.Nodup := by
      rw [List.nodup_iff_count]
      intro a
      by_cases ha : a ∈ t
      · obtain ⟨h0, h1⟩ := mem_nums.1 (hin a ha)
        have := h a.toNat (by omega)
        rw [show ((a.toNat : Nat) : Int) = a by omega] at this
        omega
      · rw [List.count_eq_zero.2 ha]; omega
    intro i hi
    have hr := mem_nums.1 (hin _ (getD_mem hi))
    refine ⟨hr.1, hr.2, fun hm => ?_⟩
    rw [List.mem_take_iff_getElem] at hm
    obtain ⟨j, hj, he⟩ := hm
    rw [List.Nodup, List.pairwise_iff_getElem] at hnd
    apply hnd j i (by omega) hi (by omega)
    rw [he, List.getD_eq_getElem?_getD, List.getElem?_eq_getElem hi, Option.getD_some]
/-- Where an entry leads. -/
def sg (t : List Int) (j : Nat) : Nat := (t.getD j 0).toNat
theorem good.sg_lt {t : List Int} (h : good t) {j : Nat} (hj : j < t.length) : sg t j < t.length ∧ t.getD j 0 = (sg t j : Int) := by
  have := h j hj
  unfold sg
  omega
theorem good.sg_inj {t : List Int} (h : good t) {i j : Nat} (hi : i < t.length) (hj : j < t.length) (e : sg t i = sg t j) : i = j := by
  have h1 := h.sg_lt hi
  have h2 := h.sg_lt hj
  rcases Nat.lt_trichotomy i j with hlt | heq | hgt
  · exact absurd (by rw [h1.2, h2.2, e]) (h.ne hlt hj)
  · exact heq
  · exact absurd (by rw [h1.2, h2.2, e]) (h.ne hgt hi)
theorem setB_get {D : List Bool} {i : Nat} (hi : i < D.length) (j : Nat) : (D.set i true).getD j false = if j = i then true else D.getD j false := by
  rw [List.getD_eq_getElem?_getD, List.getElem?_set]
  by_cases e : i = j
  · subst e; simp [hi]
  · rw [if_neg e, if_neg (fun h => e h.symm), ← List.getD_eq_getElem?_getD]
theorem setI_get {L : List Int} {i : Nat} (hi : i < L.length) (x : Int) (j : Nat) : (L.set i x).getD j 0 = if j = i then x else L.getD j 0 := by
  rw [List.getD_eq_getElem?_getD, List.getElem?_set]
  by_cases e : i = j
  · subst e; simp [hi]
  · rw [if_neg e, if_neg (fun h => e h.symm), ← List.getD_eq_getElem?_getD]
/-- Between two cycles. -/
structure Outer (t l : List Int) (s : Nat) (D : List Bool) (L : List Int) : Prop where
  ld : D.length = t.length
  ll : L.length = t.length
  closed : ∀ j, j < t.length → D.getD (sg t j) false = D.getD j false
  yes : ∀ j, j < t.length → D.getD j false = true → L.getD j 0 = l.getD (sg t j) 0
  no : ∀ j, j < t.length → D.getD j false = false → L.getD j 0 = l.getD j 0
  front : ∀ j, j < s → D.getD j false = true
/-- Within a cycle that began at s, at i. -/
structure Inner (t l : List Int) (s i : Nat) (D0 D : List Bool) (L : List Int) : Prop where
  ld : D.length = t.length
  ll : L.length = t.length
  hi : i < t.length
  hs : s < t.length
  sub : ∀ j, D0.getD j false = true → D.getD j false = true
  here : D.getD i false = false
  fwd : ∀ j, j < t.length → D.getD j false = true → D0.getD j false = false → sg t j = i ∨ (D.getD (sg t j) false = true ∧ D0.getD (sg t j) false = false)
  start : s = i ∨ (D.getD s false = true ∧ D0.getD s false = false)
  back : ∀ j, j < t.length → sg t j ≠ s → (D.getD (sg t j) false = true ∧ D0.getD (sg t j) false = false) ∨ sg t j = i → D.getD j false = true ∧ D0.getD j false = false
  yes : ∀ j, j < t.length → D.getD j false = true → L.getD j 0 = l.getD (sg t j) 0
  no : ∀ j, j < t.length → D.getD j false = false → L.getD j 0 = l.getD j 0
theorem Outer.begin {t l : List Int} {s : Nat} {D : List Bool} {L : List Int} (h : Outer t l s D L) (hs : s < t.length) (hd : D.getD s false = false) : Inner t l s s D D L where
  ld := h.ld
  ll := h.ll
  hi := hs
  hs := hs
  sub := fun j hj => hj
  here := hd
  fwd := fun j _ h1 h2 => by rw [h1] at h2; cases h2
  start := .inl rfl
  back := fun j _ hne ho => by
    rcases ho with ⟨h1, h2⟩ | h1
    · rw [h1] at h2; cases h2
    · exact absurd h1 hne
  yes := h.yes
  no := h.no
theorem Inner.next {t l L0 : List Int} {s i : Nat} {D0 D : List Bool} {L : List Int} (hg : good t) (h0 : Outer t l s D0 L0) (h : Inner t l s i D0 D L) (hne : sg t i ≠ s) :
    Inner t l s (sg t i) D0 (D.set i true) (L.set i (L.getD (sg t i) 0)) ∧ D.getD (sg t i) false = false ∧ sg t i ≠ i := by
  have hsg := hg.sg_lt h.hi
  have hid : i < D.length := by rw [h.ld]; exact h.hi
  have hil : i < L.length := by rw [h.ll]; exact h.hi
  have hi0 : D0.getD i false = false := by
    cases hb : D0.getD i false with
    | false => rfl
    | true => have := h.sub i hb; rw [h.here] at this; cases this
  have hn0 : D0.getD (sg t i) false = false := by rw [h0.closed i h.hi]; exact hi0
  have hnn : D.getD (sg t i) false = false := by
    cases hb : D.getD (sg t i) false with
    | false => rfl
    | true =>
      have := (h.back i h.hi hne (.inl ⟨hb, hn0⟩)).1
      rw [h.here] at this
      cases this
  have hni : sg t i ≠ i := fun e => by
    have := (h.back i h.hi hne (.inr e)).1
    rw [h.here] at this
    cases this
  refine ⟨?_, hnn, hni⟩
  constructor
  · rw [List.length_set]; exact h.ld
  · rw [List.length_set]; exact h.ll
  · exact hsg.1
  · exact h.hs
  · intro j hj
    rw [setB_get hid]
    split
    · rfl
    · exact h.sub j hj
  · rw [setB_get hid, if_neg hni]; exact hnn
  · intro j hj h1 h2
    rw [setB_get hid] at h1 ⊢
    by_cases e : j = i
    · subst e; exact .inl rfl
    · rw [if_neg e] at h1
      rcases h.fwd j hj h1 h2 with h3 | ⟨h3, h4⟩
      · exact .inr ⟨by rw [if_pos h3], by rw [h3]; exact hi0⟩
      · refine .inr ⟨?_, h4⟩
        split
        · rfl
        · exact h3
  · rw [setB_get hid]
    rcases h.start with h1 | ⟨h1, h2⟩
    · exact .inr ⟨by rw [if_pos h1], by rw [h1]; exact hi0⟩
    · refine .inr ⟨?_, h2⟩
      split
      · rfl
      · exact h1
  · intro j hj hjs ho
    rw [setB_get hid] at ho ⊢
    by_cases e : j = i
    · subst e; exact ⟨if_pos rfl, hi0⟩
    · rw [if_neg e]
      rcases ho with ⟨h1, h2⟩ | h1
      · by_cases e2 : sg t j = i
        · exact h.back j hj hjs (.inr e2)
        · rw [if_neg e2] at h1
          exact h.back j hj hjs (.inl ⟨h1, h2⟩)
      · exact absurd (hg.sg_inj hj h.hi h1) e
  · intro j hj h1
    rw [setI_get hil]
    rw [setB_get hid] at h1
    by_cases e : j = i
    · subst e
      rw [if_pos rfl]
      exact h.no _ hsg.1 hnn
    · rw [if_neg e] at h1 ⊢
      exact h.yes j hj h1
  · intro j hj h1
    rw [setI_get hil]
    rw [setB_get hid] at h1
    by_cases e : j = i
    · rw [if_pos e] at h1; cases h1
    · rw [if_neg e] at h1 ⊢
      exact h.no j hj h1
theorem Inner.stop {t l L0 : List Int} {s i : Nat} {D0 D : List Bool} {L : List Int} (hg : good t) (h0 : Outer t l s D0 L0) (h : Inner t l s i D0 D L) (hne : sg t i = s) (hd : D0.getD s false = false) :
    Outer t l (s + 1) (D.set i true) (L.set i (l.getD s 0)) := by
  have hid : i < D.length := by rw [h.ld]; exact h.hi
  have hil : i < L.length := by rw [h.ll]; exact h.hi
  have hi0 : D0.getD i false = false := by
    cases hb : D0.getD i false with
    | false => rfl
    | true => have := h.sub i hb; rw [h.here] at this; cases this
  have hsd : (D.set i true).getD s false = true := by
    rw [setB_get hid]
    rcases h.start with h1 | ⟨h1, h2⟩
    · rw [if_pos h1]
    · split
      · rfl
      · exact h1
  constructor
  · rw [List.length_set]; exact h.ld
  · rw [List.length_set]; exact h.ll
  · intro j hj
    cases hb : (D.set i true).getD j false with
    | true =>
      rw [setB_get hid] at hb
      by_cases e : j = i
      · subst e; rw [hne]; exact hsd
      · rw [if_neg e] at hb
        cases hb0 : D0.getD j false with
        | true =>
          have h1 := h0.closed j hj
          rw [hb0] at h1
          have h2 := h.sub _ h1
          rw [setB_get hid]
          split
          · rfl
          · exact h2
        | false =>
          rw [setB_get hid]
          rcases h.fwd j hj hb hb0 with h3 | ⟨h3, _⟩
          · rw [if_pos h3]
          · split
            · rfl
            · exact h3
    | false =>
      rw [setB_get hid] at hb
      by_cases e : j = i
      · rw [if_pos e] at hb; cases hb
      · rw [if_neg e] at hb
        cases hc : (D.set i true).getD (sg t j) false with
        | false => rfl
        | true =>
          exfalso
          rw [setB_get hid] at hc
          have hj0 : D0.getD j false = false := by
            cases hb' : D0.getD j false with
            | false => rfl
            | true => have := h.sub j hb'; rw [hb] at this; cases this
          have hs0 : D0.getD (sg t j) false = false := by rw [h0.closed j hj]; exact hj0
          by_cases e3 : sg t j = s
          · exact e (hg.sg_inj hj h.hi (by rw [e3, hne]))
          · by_cases e2 : sg t j = i
            · have := (h.back j hj e3 (.inr e2)).1
              rw [hb] at this; cases this
            · rw [if_neg e2] at hc
              have := (h.back j hj e3 (.inl ⟨hc, hs0⟩)).1
              rw [hb] at this; cases this
  · intro j hj h1
    rw [setI_get hil]
    rw [setB_get hid] at h1
    by_cases e : j = i
    · subst e; rw [if_pos rfl, hne]
    · rw [if_neg e] at h1 ⊢
      exact h.yes j hj h1
  · intro j hj h1
    rw [setI_get hil]
    rw [setB_get hid] at h1
    by_cases e : j = i
    · rw [if_pos e] at h1; cases h1
    · rw [if_neg e] at h1 ⊢
      exact h.no j hj h1
  · intro j hj
    by_cases e : j = s
    · subst e; exact hsd
    · have h1 := h.sub j (h0.front j (by omega))
      rw [setB_get hid]
      split
      · rfl
      · exact h1
theorem Outer.skip {t l : List Int} {s : Nat} {D : List Bool} {L : List Int} (h : Outer t l s D L) (hd : D.getD s false = true) : Outer t l (s + 1) D L :=
  ⟨h.ld, h.ll, h.closed, h.yes, h.no, fun j hj => by
    by_cases e : j = s
    · subst e; exact hd
    · exact h.front j (by omega)⟩
theorem Outer.zero {t l : List Int} (hl : l.length = t.length) : Outer t l 0 (List.replicate t.length false) l where
  ld := by simp
  ll := hl
  closed := fun j hj => by simp only [List.getD_eq_getElem?_getD, List.getElem?_replicate]; split <;> simp [hj]
  yes := fun j hj h => by
    simp [List.getD_eq_getElem?_getD, List.getElem?_replicate, hj] at h
  no := fun j hj h => rfl
  front := fun j hj => absurd hj (by omega)
/-- How many are left. -/
def left : List Bool → Nat
  | [] => 0
  | b :: bs => (if b then 0 else 1) + left bs
theorem left_set : ∀ (D : List Bool) (i : Nat), i < D.length → D.getD i false = false → left (D.set i true) + 1 = left D
  | [], i, h, _ => by simp at h
  | b :: bs, 0, _, h => by
    simp at h
    subst h
    simp [left]
    omega
  | b :: bs, i + 1, h, hb => by
    have ih := left_set bs i (by simpa using h) (by simpa using hb)
    simp only [List.set_cons_succ, left]
    omega
end Go.Proofs.Ytmofdjddjkjogaa.Sw
