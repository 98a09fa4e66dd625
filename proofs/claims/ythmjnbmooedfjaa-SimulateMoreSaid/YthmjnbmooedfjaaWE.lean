/-
  Walks: lists that are in order: Clip, Compact, Sort.
-/
import Derived.Test.YthmjnbmooedfjaaW7
namespace Go.AM
open Go Go.Proofs Go.RowKit

set_option maxRecDepth 100000 in
theorem con_clip (l : List Int) (hl : l.length ≤ 9223372036854775806) : Con Try.prog 34 [vs 0 l] [] fun r _ => r = .sl 1 1 (l.map vi) := by
  refine Con.intro Try.func34 rfl Try.ntmps34 Try.results34 (by kernel_rfl) (by simp) 0 (by simp) ?_
  have e : (List.take l.length (List.map vi l)).drop 0 = List.map vi l := by rw [List.drop_zero]; exact List.take_of_length_le (by simp)
  simp only [go_sem, e]
  simp

/-- no two neighbours are equal -/
def Apart1 (l : List Int) : Prop := ∀ k, 1 ≤ k → k < l.length → l[k]! ≠ l[k - 1]!

set_option maxRecDepth 100000 in
theorem con_compact (l : List Int) (hl : l.length ≤ 1000000) (ha : Apart1 l) : Con Try.prog 53 [vs 0 l] [] fun r _ => r = vs 0 l := by
  refine Con.intro Try.func53 rfl Try.ntmps53 Try.results53 (by kernel_rfl) (by simp) 0 (by simp) ?_
  by_cases h : (l.length : Int) < 2
  · simp only [go_sem, h]
  simp only [go_sem, h]
  refine LoopK.intro (fun k : Nat => ⟨61, [(0, .sl 0 1 (l.map vi)), (3, .sc (.int .i64 k))], []⟩) (fun k => l.length - k) (fun k => 1 ≤ k ∧ k ≤ l.length) 1 ⟨by omega, by omega⟩ ?_ ?_
  · simp only [go_sem]
  rintro k ⟨h1, h2⟩
  by_cases hk : k < l.length
  · have hw : IntKind.i64.wrap (k + 1) = k + 1 := wrap_in (by omega) (by omega)
    have hw2 : IntKind.i64.wrap ((k : Int) - 1) = (k - 1 : Nat) := by rw [wrap_in (by omega) (by omega)]; omega
    have hk2 : k - 1 < l.length := by omega
    have g1 := getv hk
    have g2 := getv hk2
    have hne : (l[k]! == l[k - 1]!) = false := by simpa using ha k h1 hk
    simp only [go_sem, hk]
    refine DrawK.walk 10 mixed (by kernel_rfl) ?_
    simp only [go_sem, hk, g1, g2, hw2, hk2, hne, hw]
    refine roundK.intro (k + 1) ⟨by omega, by omega⟩ (by omega) ?_
    simp only [go_sem]
  · simp only [go_sem, hk]

set_option maxRecDepth 100000 in
theorem con_compactS (l : List Int) (hl : l.length ≤ 1000000) (ha : Apart1 l) : Con Try.prog 55 [vs 0 l] [] fun r _ => r = vs 0 l := by
  refine Con.intro Try.func55 rfl Try.ntmps55 Try.results55 (by kernel_rfl) (by simp) 0 (by simp) ?_
  by_cases h : (l.length : Int) < 2
  · simp only [go_sem, h]
  simp only [go_sem, h]
  refine LoopK.intro (fun k : Nat => ⟨61, [(0, .sl 0 1 (l.map vi)), (3, .sc (.int .i64 k))], []⟩) (fun k => l.length - k) (fun k => 1 ≤ k ∧ k ≤ l.length) 1 ⟨by omega, by omega⟩ ?_ ?_
  · simp only [go_sem]
  rintro k ⟨h1, h2⟩
  by_cases hk : k < l.length
  · have hw : IntKind.i64.wrap (k + 1) = k + 1 := wrap_in (by omega) (by omega)
    have hw2 : IntKind.i64.wrap ((k : Int) - 1) = (k - 1 : Nat) := by rw [wrap_in (by omega) (by omega)]; omega
    have hk2 : k - 1 < l.length := by omega
    have g1 := getv hk
    have g2 := getv hk2
    have hne : (l[k]! == l[k - 1]!) = false := by simpa using ha k h1 hk
    simp only [go_sem, hk]
    refine DrawK.walk 10 mixed (by kernel_rfl) ?_
    simp only [go_sem, hk, g1, g2, hw2, hk2, hne, hw]
    refine roundK.intro (k + 1) ⟨by omega, by omega⟩ (by omega) ?_
    simp only [go_sem]
  · simp only [go_sem, hk]

set_option maxRecDepth 100000 in
theorem con_len64 (n : Nat) (hn : n ≤ 3) : Con Try.prog 81 [vq n] [] fun r _ => ∃ v, r = vi v := by
  refine Con.intro Try.func81 rfl Try.ntmps81 Try.results81 (by kernel_rfl) (by simp) 0 (by simp) ?_
  have h1 : ¬ (4294967296 : Int) ≤ n := by omega
  have h2 : ¬ (65536 : Int) ≤ n := by omega
  have h3 : ¬ (256 : Int) ≤ n := by omega
  simp only [go_sem, h1, h2, h3]
  have h : n = 0 ∨ n = 1 ∨ n = 2 ∨ n = 3 := by omega
  rcases h with rfl | rfl | rfl | rfl
  · refine ⟨0, by kernel_rfl, ?_⟩
    simp only [go_sem]
    exact ⟨_, rfl⟩
  · refine ⟨1, by kernel_rfl, ?_⟩
    simp only [go_sem]
    exact ⟨_, rfl⟩
  · refine ⟨2, by kernel_rfl, ?_⟩
    simp only [go_sem]
    exact ⟨_, rfl⟩
  · refine ⟨2, by kernel_rfl, ?_⟩
    simp only [go_sem]
    exact ⟨_, rfl⟩

set_option maxRecDepth 100000 in
theorem con_isnan (x : Int) : Con Try.prog 89 [vi x] [] fun r _ => r = .sc (.bool false) := by
  refine Con.intro Try.func89 rfl Try.ntmps89 Try.results89 (by kernel_rfl) (by simp) 0 (by simp) ?_
  have h : (x != x) = false := by simp
  simp only [go_sem, h]

set_option maxRecDepth 100000 in
theorem con_less (x y : Int) : Con Try.prog 77 [vi x, vi y] [] fun r _ => r = .sc (.bool (decide (x < y))) := by
  refine Con.intro Try.func77 rfl Try.ntmps77 Try.results77 (by kernel_rfl) (by simp) 0 (by simp) ?_
  simp only [go_sem]
  refine CallU.free (con_isnan x) (by simp only [go_sem]) (by simp only [go_sem]) ?_
  rintro r bx rfl
  simp only [go_sem]

def Asc (l : List Int) : Prop := ∀ k, 1 ≤ k → k < l.length → l[k - 1]! ≤ l[k]!

set_option maxRecDepth 100000 in
theorem con_insertion (l : List Int) (hl : l.length ≤ 12) (ha : Asc l) : Con Try.prog 71 [vs 0 l, vi 0, vi l.length] [] fun r _ => r = .tup [] := by
  refine Con.intro Try.func71 rfl Try.ntmps71 Try.results71 (by kernel_rfl) (by simp) 0 (by simp) ?_
  simp only [go_sem]
  refine LoopK.intro (fun i : Nat => ⟨49, [(0, .sl 0 1 (l.map vi)), (1, .sc (.int .i64 0)), (2, .sc (.int .i64 l.length)), (6, .sc (.int .i64 i))], []⟩) (fun i => l.length - i) (fun i => 1 ≤ i) 1 (by omega) ?_ ?_
  · have w1 : IntKind.i64.wrap 1 = 1 := wrap_in (by omega) (by omega)
    simp only [go_sem, w1]
  intro i h1
  by_cases hi : i < l.length
  case neg =>
    simp only [go_sem, hi]
  have hw : IntKind.i64.wrap (i + 1) = i + 1 := wrap_in (by omega) (by omega)
  have hw2 : IntKind.i64.wrap ((i : Int) - 1) = (i - 1 : Nat) := by rw [wrap_in (by omega) (by omega)]; omega
  have hi2 : i - 1 < l.length := by omega
  have g1 := getv hi
  have g2 := getv hi2
  have hp : (0 : Int) < i := by omega
  have hlt : ¬ l[i]! < l[i - 1]! := by have := ha i h1 hi; omega
  simp only [go_sem, hi]
  refine LoopK.intro (fun _ : Unit => ⟨49, [(0, .sl 0 1 (l.map vi)), (1, .sc (.int .i64 0)), (2, .sc (.int .i64 l.length)), (6, .sc (.int .i64 i)), (7, .sc (.int .i64 i))], []⟩) (fun _ => 0) (fun _ => True) () trivial ?_ ?_
  · simp only [go_sem]
  rintro ⟨⟩ _
  simp only [go_sem]
  refine DrawK.walk 15 mixed (by kernel_rfl) ?_
  simp only [go_sem, hp, hi, hi2, g1, g2, hw2]
  refine CallY.mk (con_less l[i]! l[i - 1]!) (by simp only [go_sem]) (by simp only [go_sem]) (.inl rfl) ?_
  simp only [go_sem, hlt, hw]
  refine roundK.intro (i + 1) (by show 1 ≤ i + 1; omega) (by show l.length - (i + 1) < l.length - i; omega) ?_
  simp only [go_sem]

set_option maxRecDepth 100000 in
theorem con_pdq (l : List Int) (hl : l.length ≤ 12) (ha : Asc l) (v : Int) : Con Try.prog 63 [vs 0 l, vi 0, vi l.length, vi v] [] fun r _ => r = .tup [] := by
  refine Con.intro Try.func63 rfl Try.ntmps63 Try.results63 (by kernel_rfl) (by simp) 0 (by simp) ?_
  simp only [go_sem]
  refine LoopK.intro (fun _ : Unit => ⟨134, [(0, .sl 0 1 (l.map vi)), (1, .sc (.int .i64 0)), (2, .sc (.int .i64 l.length))], []⟩) (fun _ => 0) (fun _ => True) () trivial ?_ ?_
  · simp only [go_sem]
  rintro ⟨⟩ _
  have hw : IntKind.i64.wrap ((l.length : Int) - 0) = l.length := by rw [wrap_in (by omega) (by omega)]; omega
  have h12 : (l.length : Int) ≤ 12 := by omega
  simp only [go_sem, hw, h12]
  refine CallU.free (con_insertion l hl ha) (by simp only [go_sem]) (by simp only [go_sem]) ?_
  rintro r bx rfl
  simp only [go_sem]

set_option maxRecDepth 100000 in
theorem con_len (n : Nat) (hn : n ≤ 3) : Con Try.prog 64 [vq n] [] fun r _ => ∃ v, r = vi v := by
  refine Con.intro Try.func64 rfl Try.ntmps64 Try.results64 (by kernel_rfl) (by simp) 0 (by simp) ?_
  simp only [go_sem]
  refine CallU.free (con_len64 n hn) (by simp only [go_sem]) (by simp only [go_sem]) ?_
  rintro r bx ⟨v, rfl⟩
  simp only [go_sem]
  exact ⟨v, rfl⟩

set_option maxRecDepth 100000 in
theorem con_sort52 (l : List Int) (hl : l.length ≤ 3) (ha : Asc l) : Con Try.prog 52 [vs 0 l] [] fun r _ => r = .tup [] := by
  refine Con.intro Try.func52 rfl Try.ntmps52 Try.results52 (by kernel_rfl) (by simp) 0 (by simp) ?_
  have w2 : IntKind.u64.wrap (l.length : Int) = l.length := by rw [IntKind.wrap_u64]; omega
  simp only [go_sem, w2]
  refine CallU.free (con_len l.length hl) (by simp only [go_sem]) (by simp only [go_sem]) ?_
  rintro r bx ⟨v, rfl⟩
  simp only [go_sem]
  refine CallU.free (con_pdq l (by omega) ha v) (by simp only [go_sem]) (by simp only [go_sem]) ?_
  rintro r bx rfl
  simp only [go_sem]

set_option maxRecDepth 100000 in
theorem con_sort54 (l : List Int) (hl : l.length ≤ 3) (ha : Asc l) : Con Try.prog 54 [vs 0 l] [] fun r _ => r = .tup [] := by
  refine Con.intro Try.func54 rfl Try.ntmps54 Try.results54 (by kernel_rfl) (by simp) 0 (by simp) ?_
  have w2 : IntKind.u64.wrap (l.length : Int) = l.length := by rw [IntKind.wrap_u64]; omega
  simp only [go_sem, w2]
  refine CallU.free (con_len l.length hl) (by simp only [go_sem]) (by simp only [go_sem]) ?_
  rintro r bx ⟨v, rfl⟩
  simp only [go_sem]
  refine CallU.free (con_pdq l (by omega) ha v) (by simp only [go_sem]) (by simp only [go_sem]) ?_
  rintro r bx rfl
  simp only [go_sem]
end Go.AM
