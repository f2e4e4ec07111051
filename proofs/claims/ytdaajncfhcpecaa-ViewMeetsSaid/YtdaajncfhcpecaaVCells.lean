/- The walk of chapter 8's Cells, the reference's; what a view that can be is. No condition. -/
import Derived.Test.YtdaajncfhcpecaaVProgCheck
namespace Go.Proofs.Ytdaajncfhcpecaa
set_option linter.unusedVariables false
set_option linter.unusedSimpArgs false
open Go.RowKit
namespace V
open Classical
theorem chk_zero {f : Nat → Int} {N : Nat} {c : Int} (h : chk f N c = 0) : (∀ n, n < N → 0 ≤ f n ∧ f n < c) ∧ dupB f N = false := by
  unfold chk at h
  split at h
  · omega
  · rename_i hno
    refine ⟨fun n hn => Classical.byContradiction fun hx => hno ⟨n, hn, hx⟩, ?_⟩
    split at h
    · omega
    · rename_i hd; simpa using hd
theorem check_zero {o : Int} {l s : List Int} {c : Int} (h : check o l s c = 0) : l.length = s.length ∧ S.Ok l ∧ 0 ≤ c ∧ c ≤ 4096 ∧ (∀ n, n < sizeN l → 0 ≤ cellOf o l s n ∧ cellOf o l s n < c) ∧ dupB (cellOf o l s) (sizeN l) = false ∧ near o l s c := by
  have h' := h
  unfold check at h
  split at h
  · omega
  · rename_i h1
    split at h
    · omega
    · rename_i h2
      have hok : S.Ok l := by
        rcases S.size_cases l with ho | ⟨_, he⟩ | ⟨_, he⟩
        · exact ho
        all_goals rw [he] at h2; simp at h2
      have hz := chk_zero h
      have hb : l.length = s.length ∧ 0 ≤ c ∧ c ≤ 4096 := by omega
      refine ⟨hb.1, hok, hb.2.1, hb.2.2, hz.1, hz.2, Classical.byContradiction fun hn => ?_⟩
      rw [check_far o l s c hok hb.1 hb.2.1 hb.2.2 hn] at h'
      omega
noncomputable def cells (o : Int) (l s : List Int) : List Int := if check o l s 4096 = 0 then (List.range (sizeN l)).map (cellOf o l s) else []
end V
theorem under22 : Try.prog.underlying 22 = some (.slice 3) := by kernel_rfl
theorem info3 : (Try.prog.info? 3).map (fun i => (i.zero, i.size, i.bytes)) = some (some (.int .i64 0), 1, 8) := by kernel_rfl
/-- 'append(out, x)' as a run: out a row of the call's own, or none. -/
theorem append_run (W : World) (B : Nat) (v : Value) (l : List Int) (y : Int) (hown : OI .i64 3 W B v l) (hlen : l.length + 1 ≤ 8192) (hB : B ≤ W.heap.size) :
    ∃ v' W', (Builtin.append_ #[22, 22] 22 #[v, .slice (some ⟨W.heap.size, 0, none⟩) 1 1]).run Try.prog (W.alloc (.cells #[.int .i64 y] 3)) = .ok v' W' ∧ OI .i64 3 W' B v' (l ++ [y]) ∧ Below B W W' := by
  obtain ⟨i0, h1, h2, h3, h4⟩ := info_parts info3
  obtain ⟨g, cap, W', hr, ho, hg, _, _⟩ := run_append_lies (P := Try.prog) (W.alloc (.cells #[.int .i64 y] 3)) 22 22 B 3 i0 (.int .i64 0) 1 8 under22 h1 h2 h3 h4 rfl (by decide) v l.length (ints .i64 l) (OI.alloc hown _)
    ⟨W.heap.size, 0, none⟩ 1 1 [.int .i64 y] rfl (cell_one_new _ _ _) (by intro u hu; simp at hu; subst hu; rfl) (by decide) (by unfold maxLen; omega) (by omega) (by simp; omega) _ rfl
  refine ⟨_, W', hr, ?_, ?_⟩
  · unfold OI; simpa [ints] using ho
  · exact ((Below.refl _ _).alloc hB _).grown hg (by simp; omega) (fun g hg' => (hown.lt g hg').1)
end Go.Proofs.Ytdaajncfhcpecaa
