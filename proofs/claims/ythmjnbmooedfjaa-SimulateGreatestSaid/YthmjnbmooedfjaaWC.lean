/-
  Walks: lists that are in order: Sort.
-/
import Derived.Test.YthmjnbmooedfjaaW7
import Derived.Test.YthmjnbmooedfjaaWB
namespace Go.AM
open Go Go.Proofs Go.RowKit

set_option maxRecDepth 100000 in
theorem con_len64 (n : Nat) (hn : n ≤ 3) : Con Try.prog 81 [vq n] [] fun r _ => ∃ v, r = vi v := by
  refine Con.intro Try.func81 rfl Try.ntmps81 Try.results81 (by kernel_rfl) (by simp) 0 (by simp) ?_
  have h1 : ¬ (4294967296 : Int) ≤ n := by omega
  have h2 : ¬ (65536 : Int) ≤ n := by omega
  have h3 : ¬ (256 : Int) ≤ n := by omega
  simp only [go_sem, h1, h2, h3]
  have h : n = 0 ∨ n = 1 ∨ n = 2 ∨ n = 3 := by omega
  rcases h with rfl | rfl | rfl | rfl
  · refine ⟨0, by kernel_rfl, ?_⟩
    simp only [go_sem]
    exact ⟨_, rfl⟩
  · refine ⟨1, by kernel_rfl, ?_⟩
    simp only [go_sem]
    exact ⟨_, rfl⟩
  · refine ⟨2, by kernel_rfl, ?_⟩
    simp only [go_sem]
    exact ⟨_, rfl⟩
  · refine ⟨2, by kernel_rfl, ?_⟩
    simp only [go_sem]
    exact ⟨_, rfl⟩

set_option maxRecDepth 100000 in
theorem con_isnan (x : Int) : Con Try.prog 89 [vi x] [] fun r _ => r = .sc (.bool false) := by
  refine Con.intro Try.func89 rfl Try.ntmps89 Try.results89 (by kernel_rfl) (by simp) 0 (by simp) ?_
  have h : (x != x) = false := by simp
  simp only [go_sem, h]

set_option maxRecDepth 100000 in
theorem con_less (x y : Int) : Con Try.prog 77 [vi x, vi y] [] fun r _ => r = .sc (.bool (decide (x < y))) := by
  refine Con.intro Try.func77 rfl Try.ntmps77 Try.results77 (by kernel_rfl) (by simp) 0 (by simp) ?_
  simp only [go_sem]
  refine CallU.free (con_isnan x) (by simp only [go_sem]) (by simp only [go_sem]) ?_
  rintro r bx rfl
  simp only [go_sem]
end Go.AM
