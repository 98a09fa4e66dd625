/-
  Walks: the law's sanity check.
-/
import Derived.Test.YtmkbhopiaohcmaaWE
namespace Go.AM
open Go Go.Proofs Go.RowKit

theorem kern_try : kernF [[1, -1, 0]] = ([[1, 1, 0], [0, 0, 1]], 0) := by decide +kernel
theorem rank_try : rankF [[2, 4], [1, 2]] = (1, 0) := by decide +kernel
theorem apply_try : applyF [[1, 2]] [3, 4] = ([11], 0) := by decide +kernel
theorem check_try : checkF [[0]] = 0 := by decide +kernel

set_option maxRecDepth 100000 in
set_option maxHeartbeats 4000000 in
theorem awake : Con Try.prog 8 [] [] fun r _ => r = .sc (.bool true) := by
  refine Con.intro Try.func8 rfl Try.ntmps8 Try.results8 (by kernel_rfl) (by simp) 0 (by simp) ?_
  simp only [go_sem]
  refine CallU.freeze (con_kernel [[1, -1, 0]] ⟨by simp, by simp⟩) (by simp only [go_sem]) (by simp only [go_sem, List.map_cons, List.map_nil]) ?_
  rintro r bx rfl
  rw [kern_try]
  simp only [go_sem, vpairm, List.map_cons, List.map_nil]
  refine CallU.freeze (con_rank [[2, 4], [1, 2]] ⟨by simp, by simp⟩) (by simp only [go_sem]) (by simp only [go_sem, List.map_cons, List.map_nil]) ?_
  rintro r bx rfl
  rw [rank_try]
  simp only [go_sem]
  refine CallU.freeze (con_apply [[1, 2]] [3, 4] ⟨by simp, by simp⟩ (by simp)) (by simp only [go_sem]) (by simp only [go_sem, List.map_cons, List.map_nil]) ?_
  rintro r bx rfl
  rw [apply_try]
  simp only [go_sem, vpair, List.map_cons, List.map_nil]
  refine CallU.freeze (con_check [[0]] ⟨by simp, by simp⟩) (by simp only [go_sem]) (by simp only [go_sem, List.map_cons, List.map_nil]) ?_
  rintro r bx rfl
  rw [check_try]
  simp only [go_sem]
end Go.AM
