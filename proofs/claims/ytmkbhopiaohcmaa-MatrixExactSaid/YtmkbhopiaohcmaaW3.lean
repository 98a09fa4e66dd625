/-
  Walks: the check of a matrix, dot, column, Apply.
-/
import Derived.Test.YtmkbhopiaohcmaaW2
namespace Go.AM
open Go Go.Proofs Go.RowKit

def badRow (n : Nat) (row : List Int) : Bool := decide (row.length ≠ n) || row.any lawBad
def checkF (m : List (List Int)) : Int :=
  if m.length < 1 ∨ 12 < m.length then 10
  else if m[0]!.length < 1 ∨ 12 < m[0]!.length ∨ 6 < min m[0]!.length m.length then 10
  else if m.any (badRow m[0]!.length) then 10 else 0

/-- no list is longer than memory -/
def Fits (m : List (List Int)) : Prop := m.length ≤ 140737488355328 ∧ ∀ row ∈ m, row.length ≤ 140737488355328
theorem Fits.at {m : List (List Int)} (h : Fits m) {i : Nat} (hi : i < m.length) : m[i]!.length ≤ 140737488355328 := h.2 _ (by simp [hi])

theorem any_stop {α : Type} [Inhabited α] {p : α → Bool} {l : List α} {i : Nat} (h : i < l.length) (hp : p l[i]! = true) : l.any p = true :=
  List.any_eq_true.2 ⟨l[i]!, by simp [h], hp⟩
theorem any_none {α : Type} [Inhabited α] {p : α → Bool} {l : List α} (hb : ∀ j, j < l.length → p l[j]! = false) : l.any p = false := by
  rw [List.any_eq_false]
  intro x hx
  obtain ⟨j, hj⟩ := List.getElem?_of_mem hx
  have := hb j (List.getElem?_eq_some_iff.1 hj).1
  have e : l[j]! = x := by simp [hj]
  rw [e] at this; simp [this]

set_option maxRecDepth 100000 in
theorem con_check (m : List (List Int)) (hm : Fits m) : Con Try.prog 19 [vm 0 m] [] fun r _ => r = vi (checkF m) := by
  refine Con.intro Try.func19 rfl Try.ntmps19 Try.results19 (by kernel_rfl) (by simp) 0 (by simp) ?_
  by_cases h1 : m.length < 1
  · simp only [go_sem, h1, checkF, true_or]
  by_cases h2 : 12 < m.length
  · simp only [go_sem, h1, h2, checkF, true_or, or_true]
  have hg0 := getm (l := m) (i := 0) (by omega)
  have hp0 : 0 < m.length := by omega
  by_cases h3 : m[0]!.length < 1
  · simp only [go_sem, h1, h2, h3, hg0, hp0, checkF, true_or, false_or, or_false]
  by_cases h4 : 12 < m[0]!.length
  · simp only [go_sem, h1, h2, h3, h4, hg0, hp0, checkF, true_or, false_or, or_false, or_true]
  by_cases h5 : 6 < min m[0]!.length m.length
  · simp only [go_sem, h1, h2, h3, h4, h5, hg0, hp0, checkF, true_or, false_or, or_false, or_true]
  simp only [go_sem, h1, h2, h3, h4, h5, hg0, hp0, checkF, true_or, false_or, or_false, or_true]
  refine LoopK.intro (fun i : Nat => ⟨46, [(0, .sl 0 1 (m.map (vs 0))), (3, .sc (.int .i64 m[0]!.length)), (31, .sl 0 1 (m.map (vs 0))), (32, .sc (.int .i64 m.length)), (33, .sc (.int .i64 i))], []⟩)
    (fun i => m.length - i) (fun i => i ≤ m.length ∧ ∀ j, j < i → badRow m[0]!.length m[j]! = false) 0 ⟨by omega, fun j hj => by omega⟩ ?_ ?_
  · simp only [go_sem]
  · rintro i ⟨hi, hb⟩
    by_cases h : i < m.length
    · have hg := getm h
      have hw : IntKind.i64.wrap (i + 1) = i + 1 := wrap_in (by omega) (by omega)
      have hr := hm.at h
      by_cases hn : m[i]!.length = m[0]!.length
      · simp only [go_sem, h, hg, hn]
        refine CallU.free (con_containsFunc m[i]! 42 lawBad con_check1 (by omega)) (by simp only [go_sem]) (by simp only [go_sem]) ?_
        rintro r bx rfl
        cases hp : m[i]!.any lawBad
        · simp only [go_sem, hp, hw]
          refine roundK.intro (i + 1) ⟨by omega, fun j hj => ?_⟩ (by omega) ?_
          · by_cases hji : j = i
            · subst hji; simp only [badRow, hn, hp, ne_eq, not_true_eq_false, decide_false, Bool.or_false]
            · exact hb j (by omega)
          · simp only [go_sem]
        · simp only [go_sem, hp]
          rw [any_stop h (by simp only [badRow, hp, Bool.or_true])]; rfl
      · simp only [go_sem, h, hg, hn]
        rw [any_stop h (by simp only [badRow, hn, ne_eq, not_false_eq_true, decide_true, Bool.true_or])]; rfl
    · simp only [go_sem, h]
      rw [any_none (fun j hj => hb j (by omega))]; rfl

set_option maxRecDepth 100000 in
theorem con_column (m : List (List Int)) (j : Nat) (hj : ∀ row ∈ m, j < row.length) (hm : m.length ≤ 1000000) :
    Con Try.prog 41 [vm 0 m, vi j] [] fun r _ => r = vs 2 (m.map fun row => row[j]!) := by
  refine Con.intro Try.func41 rfl Try.ntmps41 Try.results41 (by kernel_rfl) (by simp) 0 (by simp) ?_
  simp only [go_sem]
  refine LoopK.intro (fun i : Nat => ⟨23, [(0, .sl 0 1 (m.map (vs 0))), (1, .sc (.int .i64 j)), (5, .sl 384 1 ((m.take i).map fun row => vi row[j]!)), (8, .sl 0 1 (m.map (vs 0))), (9, .sc (.int .i64 m.length)), (10, .sc (.int .i64 i))], []⟩)
    (fun i => m.length - i) (fun i => i ≤ m.length) 0 (by omega) ?_ ?_
  · simp only [go_sem]
  · intro i hi
    by_cases h : i < m.length
    · have hg := getm h
      have hjj : j < m[i]!.length := hj _ (by simp [h])
      have hjg := getv hjj
      have hmi : m[i]? = some m[i]! := by simp [h]
      have hw : IntKind.i64.wrap (i + 1) = i + 1 := wrap_in (by omega) (by omega)
      simp only [go_sem, h, hg, hjj, hjg, hw]
      refine ⟨by simp [roomFor]; omega, roundK.intro (i + 1) (by omega) (by omega) ?_⟩
      simp only [go_sem]
      refine leV_sl ?_
      rw [List.take_add_one, hmi, List.map_append]; rfl
    · have e : m.take i = m := List.take_of_length_le (by omega)
      simp only [go_sem, h, e]
      simp [vi]

/-- the sum of the first k products, as the machine adds them -/
def dotN (a b : List Int) : Nat → Int
  | 0 => 0
  | k + 1 => w64 (dotN a b k + w64 (a[k]! * b[k]!))
def dotF (a b : List Int) : Int := dotN a b a.length

set_option maxRecDepth 100000 in
theorem con_dot (a b : List Int) (h : a.length ≤ b.length) (ha : a.length ≤ 140737488355328) : Con Try.prog 40 [vs 0 a, vs 0 b] [] fun r _ => r = vi (dotF a b) := by
  refine Con.intro Try.func40 rfl Try.ntmps40 Try.results40 (by kernel_rfl) (by simp) 0 (by simp) ?_
  simp only [go_sem]
  refine LoopK.intro (fun i : Nat => ⟨25, [(1, .sl 0 1 (b.map vi)), (5, .sc (.int .i64 (dotN a b i))), (8, .sl 0 1 (a.map vi)), (9, .sc (.int .i64 a.length)), (10, .sc (.int .i64 i))], []⟩)
    (fun i => a.length - i) (fun i => i ≤ a.length) 0 (by omega) ?_ ?_
  · simp only [go_sem, dotN]
  · intro i hi
    by_cases hia : i < a.length
    · have hib : i < b.length := by omega
      have hga := getv hia
      have hgb := getv hib
      have hw : IntKind.i64.wrap (i + 1) = i + 1 := wrap_in (by omega) (by omega)
      simp only [go_sem, hia, hib, hga, hgb, hw]
      refine roundK.intro (i + 1) (by omega) (by omega) ?_
      simp only [go_sem, dotN, w64]
    · have : i = a.length := by omega
      subst this
      simp only [go_sem, Nat.lt_irrefl, dotF]

def applyF (m : List (List Int)) (v : List Int) : List Int × Int :=
  if checkF m ≠ 0 then ([], checkF m)
  else if v.length ≠ m[0]!.length then ([], 3)
  else if v.any lawFar then ([], 2)
  else (m.map fun row => dotF row v, 0)
end Go.AM
