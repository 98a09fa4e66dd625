/-
  Walks: Clip, Clone, Grow, Concat.
-/
import Derived.Test.YtmkbhopiaohcmaaW2
namespace Go.AM
open Go Go.Proofs Go.RowKit

/-- a contract that says less of its result -/
theorem Con.le {P : Program} {f : FuncId} {args : List AV} {bx : List (List AV)} {post post' : AV → List (List AV) → Prop} (h : Con P f args bx post) (hp : ∀ r b, post r b → ∃ r', leV r r' ∧ post' r' b) : Con P f args bx post' :=
  ⟨h.1, fun G w vs h1 h2 h3 h4 h5 => (h.2 G w vs h1 h2 h3 h4 h5).mono fun e w' ⟨v, r, bx', G', he, hq, hr, rest⟩ => by
    obtain ⟨r', hl, hq'⟩ := hp r bx' hq
    exact ⟨v, r', bx', G', he, hq', hr.le hl, rest⟩⟩

set_option maxRecDepth 100000 in
theorem con_clip (l : List Int) : Con Try.prog 48 [vs 0 l] [] fun r _ => r = vs 1 l := by
  refine Con.intro Try.func48 rfl Try.ntmps48 Try.results48 (by kernel_rfl) (by simp) 0 (by simp) ?_
  simp only [go_sem]
  exact ⟨Nat.le_refl _, by rw [List.take_of_length_le (by simp)]⟩

set_option maxRecDepth 100000 in
theorem con_clone (l : List Int) (hl : l.length ≤ 1000000) : Con Try.prog 36 [vs 0 l] [] fun r _ => r = vs 2 l := by
  refine Con.le (post := fun r _ => r = .nil ∧ l = [] ∨ r = vs 2 l) ?_ (fun r b h => ⟨vs 2 l, by rcases h with ⟨rfl, rfl⟩ | rfl; exact leV_nil 2 1; exact leV_refl _, rfl⟩)
  refine Con.intro Try.func36 rfl Try.ntmps36 Try.results36 (by kernel_rfl) (by simp) 0 (by simp) ?_
  cases l with
  | nil =>
    simp only [go_sem]
    simp [roomFor]
  | cons x l =>
    simp only [go_sem]
    simp [roomFor]; simp at hl; omega

set_option maxRecDepth 100000 in
theorem con_grow (n : Nat) (hn : n ≤ 1000000) : Con Try.prog 55 [.nil, vi n] [] fun r _ => r = vs 2 [] := by
  refine Con.le (post := fun r _ => r = .nil ∨ r = vs 2 []) ?_ (fun r b h => ⟨vs 2 [], by rcases h with rfl | rfl; exact leV_nil 2 1; exact leV_refl _, rfl⟩)
  refine Con.intro Try.func55 rfl Try.ntmps55 Try.results55 (by kernel_rfl) (by simp) 0 (by simp) ?_
  have hw0 : IntKind.i64.wrap 0 = 0 := wrap_in (by omega) (by omega)
  by_cases h : n = 0
  · subst h
    simp only [go_sem, hw0, Int.sub_zero, true_or]
  · have hz : ¬ n < 0 := by omega
    have hw : IntKind.i64.wrap (n : Int) = n := wrap_in (by omega) (by omega)
    have hp : 0 < n := by omega
    simp only [go_sem, hz, hw, hw0, hp, Int.sub_zero]
    exact ⟨by omega, by omega, .inr trivial⟩

def bound (m : List (List Int)) : Prop := m.length ≤ 1000 ∧ ∀ row ∈ m, row.length ≤ 1000
def totalN (m : List (List Int)) : Nat → Nat
  | 0 => 0
  | k + 1 => totalN m k + m[k]!.length
theorem totalN_le {m : List (List Int)} (hb : bound m) : ∀ k, k ≤ m.length → totalN m k ≤ k * 1000
  | 0, _ => by simp [totalN]
  | k + 1, hk => by
    have := totalN_le hb k (by omega)
    have := hb.2 m[k]! (by simp [show k < m.length by omega])
    simp only [totalN]; omega

set_option maxRecDepth 100000 in
theorem con_concat (m : List (List Int)) (hb : bound m) : Con Try.prog 49 [vm 0 m] [] fun r _ => r = vs 2 m.flatten := by
  refine Con.intro Try.func49 rfl Try.ntmps49 Try.results49 (by kernel_rfl) (by simp) 0 (by simp) ?_
  have hm := hb.1
  simp only [go_sem]
  refine LoopK.intro (fun i : Nat => ⟨36, [(0, .sl 0 1 (m.map (vs 0))), (3, .sc (.int .i64 (totalN m i))), (9, .sl 0 1 (m.map (vs 0))), (10, .sc (.int .i64 m.length)), (11, .sc (.int .i64 i))], []⟩)
    (fun i => m.length - i) (fun i => i ≤ m.length) 0 (by omega) ?_ ?_
  · simp only [go_sem, totalN]
  intro i hi
  by_cases h : i < m.length
  · have hg := getm h
    have ht := totalN_le hb i hi
    have hr := hb.2 m[i]! (by simp [h])
    have hw : IntKind.i64.wrap (i + 1) = i + 1 := wrap_in (by omega) (by omega)
    have hw2 : IntKind.i64.wrap ((totalN m i : Int) + m[i]!.length) = ((totalN m (i + 1) : Nat) : Int) := by rw [wrap_in (by omega) (by omega)]; simp [totalN]
    have hnn : ¬ totalN m (i + 1) < 0 := by omega
    simp only [go_sem, h, hg, hw, hw2, hnn]
    refine roundK.intro (i + 1) (by omega) (by omega) ?_
    simp only [go_sem]
  simp only [go_sem, h]
  have htot := totalN_le hb i hi
  refine CallU.free (con_grow (totalN m i) (by omega)) (by simp only [go_sem]) (by simp only [go_sem]) ?_
  rintro r bx rfl
  simp only [go_sem]
  refine LoopK.intro (fun k : Nat => ⟨36, [(6, .sl 1602 1 ((m.take k).flatten.map vi)), (25, .sl 0 1 (m.map (vs 0))), (26, .sc (.int .i64 m.length)), (27, .sc (.int .i64 k))], []⟩)
    (fun k => m.length - k) (fun k => k ≤ m.length) 0 (by omega) ?_ ?_
  · simp only [go_sem, List.flatten_nil]
  intro k hk
  by_cases h2 : k < m.length
  · have hg := getm h2
    have hw : IntKind.i64.wrap (k + 1) = k + 1 := wrap_in (by omega) (by omega)
    have hmk : m[k]? = some m[k]! := by simp [h2]
    have hfl : (m.take k).flatten.length ≤ 1000 * k := by
      have : ∀ l : List (List Int), (∀ row ∈ l, row.length ≤ 1000) → l.flatten.length ≤ 1000 * l.length := by
        intro l hl
        induction l with
        | nil => simp
        | cons a l ih =>
          have h1 := ih fun row hr => hl row (by simp [hr])
          have h2 := hl a (by simp)
          simp only [List.flatten_cons, List.length_append, List.length_cons]; omega
      have h3 := this (m.take k) fun row hr => hb.2 row (List.mem_of_mem_take hr)
      have h4 : (m.take k).length ≤ k := by rw [List.length_take]; omega
      omega
    have hr := hb.2 m[k]! (by simp [h2])
    simp only [go_sem, h2, hg, hw]
    refine ⟨⟨by omega, by omega⟩, roundK.intro (k + 1) (by omega) (by omega) ?_⟩
    simp only [go_sem]
    refine leV_sl ?_
    rw [List.take_add_one, hmk, List.flatten_append, List.map_append]; simp
  · have e : m.take k = m := List.take_of_length_le (by omega)
    simp only [go_sem, h2, e]
end Go.AM
