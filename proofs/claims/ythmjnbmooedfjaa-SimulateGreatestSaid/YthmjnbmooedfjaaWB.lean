/-
  Walks: lists that are in order: Clip, Compact.
-/
import Derived.Test.YthmjnbmooedfjaaW4
namespace Go.AM
open Go Go.Proofs Go.RowKit

set_option maxRecDepth 100000 in
theorem con_clip (l : List Int) (hl : l.length ≤ 9223372036854775806) : Con Try.prog 34 [vs 0 l] [] fun r _ => r = .sl 1 1 (l.map vi) := by
  refine Con.intro Try.func34 rfl Try.ntmps34 Try.results34 (by kernel_rfl) (by simp) 0 (by simp) ?_
  have e : (List.take l.length (List.map vi l)).drop 0 = List.map vi l := by rw [List.drop_zero]; exact List.take_of_length_le (by simp)
  simp only [go_sem, e]
  simp

/-- no two neighbours are equal -/
def Apart1 (l : List Int) : Prop := ∀ k, 1 ≤ k → k < l.length → l[k]! ≠ l[k - 1]!

set_option maxRecDepth 100000 in
theorem con_compact (l : List Int) (hl : l.length ≤ 1000000) (ha : Apart1 l) : Con Try.prog 53 [vs 0 l] [] fun r _ => r = vs 0 l := by
  refine Con.intro Try.func53 rfl Try.ntmps53 Try.results53 (by kernel_rfl) (by simp) 0 (by simp) ?_
  by_cases h : (l.length : Int) < 2
  · simp only [go_sem, h]
  simp only [go_sem, h]
  refine LoopK.intro (fun k : Nat => ⟨61, [(0, .sl 0 1 (l.map vi)), (3, .sc (.int .i64 k))], []⟩) (fun k => l.length - k) (fun k => 1 ≤ k ∧ k ≤ l.length) 1 ⟨by omega, by omega⟩ ?_ ?_
  · simp only [go_sem]
  rintro k ⟨h1, h2⟩
  by_cases hk : k < l.length
  · have hw : IntKind.i64.wrap (k + 1) = k + 1 := wrap_in (by omega) (by omega)
    have hw2 : IntKind.i64.wrap ((k : Int) - 1) = (k - 1 : Nat) := by rw [wrap_in (by omega) (by omega)]; omega
    have hk2 : k - 1 < l.length := by omega
    have g1 := getv hk
    have g2 := getv hk2
    have hne : (l[k]! == l[k - 1]!) = false := by simpa using ha k h1 hk
    simp only [go_sem, hk]
    refine DrawK.walk 10 mixed (by kernel_rfl) ?_
    simp only [go_sem, hk, g1, g2, hw2, hk2, hne, hw]
    refine roundK.intro (k + 1) ⟨by omega, by omega⟩ (by omega) ?_
    simp only [go_sem]
  · simp only [go_sem, hk]

set_option maxRecDepth 100000 in
theorem con_compactS (l : List Int) (hl : l.length ≤ 1000000) (ha : Apart1 l) : Con Try.prog 55 [vs 0 l] [] fun r _ => r = vs 0 l := by
  refine Con.intro Try.func55 rfl Try.ntmps55 Try.results55 (by kernel_rfl) (by simp) 0 (by simp) ?_
  by_cases h : (l.length : Int) < 2
  · simp only [go_sem, h]
  simp only [go_sem, h]
  refine LoopK.intro (fun k : Nat => ⟨61, [(0, .sl 0 1 (l.map vi)), (3, .sc (.int .i64 k))], []⟩) (fun k => l.length - k) (fun k => 1 ≤ k ∧ k ≤ l.length) 1 ⟨by omega, by omega⟩ ?_ ?_
  · simp only [go_sem]
  rintro k ⟨h1, h2⟩
  by_cases hk : k < l.length
  · have hw : IntKind.i64.wrap (k + 1) = k + 1 := wrap_in (by omega) (by omega)
    have hw2 : IntKind.i64.wrap ((k : Int) - 1) = (k - 1 : Nat) := by rw [wrap_in (by omega) (by omega)]; omega
    have hk2 : k - 1 < l.length := by omega
    have g1 := getv hk
    have g2 := getv hk2
    have hne : (l[k]! == l[k - 1]!) = false := by simpa using ha k h1 hk
    simp only [go_sem, hk]
    refine DrawK.walk 10 mixed (by kernel_rfl) ?_
    simp only [go_sem, hk, g1, g2, hw2, hk2, hne, hw]
    refine roundK.intro (k + 1) ⟨by omega, by omega⟩ (by omega) ?_
    simp only [go_sem]
  · simp only [go_sem, hk]
end Go.AM
