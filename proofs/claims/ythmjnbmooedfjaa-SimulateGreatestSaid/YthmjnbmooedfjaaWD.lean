/-
  Walks: insertion sort of an ascending list.
-/
import Derived.Test.YthmjnbmooedfjaaWC
namespace Go.AM
open Go Go.Proofs Go.RowKit

def Asc (l : List Int) : Prop := ∀ k, 1 ≤ k → k < l.length → l[k - 1]! ≤ l[k]!

set_option maxRecDepth 100000 in
theorem con_insertion (l : List Int) (hl : l.length ≤ 12) (ha : Asc l) : Con Try.prog 71 [vs 0 l, vi 0, vi l.length] [] fun r _ => r = .tup [] := by
  refine Con.intro Try.func71 rfl Try.ntmps71 Try.results71 (by kernel_rfl) (by simp) 0 (by simp) ?_
  simp only [go_sem]
  refine LoopK.intro (fun i : Nat => ⟨49, [(0, .sl 0 1 (l.map vi)), (1, .sc (.int .i64 0)), (2, .sc (.int .i64 l.length)), (6, .sc (.int .i64 i))], []⟩) (fun i => l.length - i) (fun i => 1 ≤ i) 1 (by omega) ?_ ?_
  · have w1 : IntKind.i64.wrap 1 = 1 := wrap_in (by omega) (by omega)
    simp only [go_sem, w1]
  intro i h1
  by_cases hi : i < l.length
  case neg =>
    simp only [go_sem, hi]
  have hw : IntKind.i64.wrap (i + 1) = i + 1 := wrap_in (by omega) (by omega)
  have hw2 : IntKind.i64.wrap ((i : Int) - 1) = (i - 1 : Nat) := by rw [wrap_in (by omega) (by omega)]; omega
  have hi2 : i - 1 < l.length := by omega
  have g1 := getv hi
  have g2 := getv hi2
  have hp : (0 : Int) < i := by omega
  have hlt : ¬ l[i]! < l[i - 1]! := by have := ha i h1 hi; omega
  simp only [go_sem, hi]
  refine LoopK.intro (fun _ : Unit => ⟨49, [(0, .sl 0 1 (l.map vi)), (1, .sc (.int .i64 0)), (2, .sc (.int .i64 l.length)), (6, .sc (.int .i64 i)), (7, .sc (.int .i64 i))], []⟩) (fun _ => 0) (fun _ => True) () trivial ?_ ?_
  · simp only [go_sem]
  rintro ⟨⟩ _
  simp only [go_sem]
  refine DrawK.walk 15 mixed (by kernel_rfl) ?_
  simp only [go_sem, hp, hi, hi2, g1, g2, hw2]
  refine CallY.mk (con_less l[i]! l[i - 1]!) (by simp only [go_sem]) (by simp only [go_sem]) (.inl rfl) ?_
  simp only [go_sem, hlt, hw]
  refine roundK.intro (i + 1) (by show 1 ≤ i + 1; omega) (by show l.length - (i + 1) < l.length - i; omega) ?_
  simp only [go_sem]

set_option maxRecDepth 100000 in
theorem con_pdq (l : List Int) (hl : l.length ≤ 12) (ha : Asc l) (v : Int) : Con Try.prog 63 [vs 0 l, vi 0, vi l.length, vi v] [] fun r _ => r = .tup [] := by
  refine Con.intro Try.func63 rfl Try.ntmps63 Try.results63 (by kernel_rfl) (by simp) 0 (by simp) ?_
  simp only [go_sem]
  refine LoopK.intro (fun _ : Unit => ⟨134, [(0, .sl 0 1 (l.map vi)), (1, .sc (.int .i64 0)), (2, .sc (.int .i64 l.length))], []⟩) (fun _ => 0) (fun _ => True) () trivial ?_ ?_
  · simp only [go_sem]
  rintro ⟨⟩ _
  have hw : IntKind.i64.wrap ((l.length : Int) - 0) = l.length := by rw [wrap_in (by omega) (by omega)]; omega
  have h12 : (l.length : Int) ≤ 12 := by omega
  simp only [go_sem, hw, h12]
  refine CallU.free (con_insertion l hl ha) (by simp only [go_sem]) (by simp only [go_sem]) ?_
  rintro r bx rfl
  simp only [go_sem]
end Go.AM
