/-
  Walks: searches in lists.
-/
import Derived.Test.YtmkbhopiaohcmaaW1
namespace Go.AM
open Go Go.Proofs Go.RowKit

/-- where the first is of which p holds; -1 where none is -/
def findI (p : Int → Bool) (l : List Int) : Int := match l.findIdx? p with | some i => i | none => -1

theorem findI_stop {p : Int → Bool} {l : List Int} {i : Nat} (h : i < l.length) (hb : ∀ j, j < i → p l[j]! = false) (hp : p l[i]! = true) : findI p l = i := by
  have : l.findIdx? p = some i := by
    rw [List.findIdx?_eq_some_iff_getElem]
    refine ⟨h, by simpa [h] using hp, fun j hj => ?_⟩
    have := hb j hj
    have hjl : j < l.length := by omega
    simpa [hjl] using this
  simp [findI, this]
theorem findI_none {p : Int → Bool} {l : List Int} (hb : ∀ j, j < l.length → p l[j]! = false) : findI p l = -1 := by
  have : l.findIdx? p = none := by
    rw [List.findIdx?_eq_none_iff]
    intro x hx
    obtain ⟨j, hj⟩ := List.getElem?_of_mem hx
    have hjl := (List.getElem?_eq_some_iff.1 hj).1
    have := hb j hjl
    have e : l[j]! = x := by simp [hj]
    rw [e] at this; exact this
  simp [findI, this]
theorem findI_ge (p : Int → Bool) (l : List Int) : decide (0 ≤ findI p l) = l.any p := by
  unfold findI
  cases h : l.findIdx? p with
  | none =>
    rw [List.findIdx?_eq_none_iff] at h
    have : l.any p = false := by simpa using h
    simp [this]
  | some i =>
    rw [List.findIdx?_eq_some_iff_getElem] at h
    obtain ⟨h1, h2, _⟩ := h
    have : l.any p = true := List.any_eq_true.2 ⟨l[i], List.getElem_mem _, h2⟩
    simp [this]

set_option maxRecDepth 100000 in
theorem con_index (l : List Int) (v : Int) (hl : l.length ≤ 9223372036854775806) : Con Try.prog 50 [vs 0 l, vi v] [] fun r _ => r = vi (findI (fun x => v == x) l) := by
  refine Con.intro Try.func50 rfl Try.ntmps50 Try.results50 (by kernel_rfl) (by simp) 0 (by simp) ?_
  simp only [go_sem]
  refine LoopK.intro (fun i : Nat => ⟨19, [(0, .sl 0 1 (l.map vi)), (1, .sc (.int .i64 v)), (7, .sc (.int .i64 l.length)), (8, .sc (.int .i64 i))], []⟩)
    (fun i => l.length - i) (fun i => i ≤ l.length ∧ ∀ j, j < i → (v == l[j]!) = false) 0 ⟨by omega, fun j hj => by omega⟩ ?_ ?_
  · simp only [go_sem]
  · rintro i ⟨hi, hb⟩
    by_cases h : i < l.length
    · have hg := getv h
      have hw : IntKind.i64.wrap (i + 1) = i + 1 := wrap_in (by omega) (by omega)
      cases hp : (v == l[i]!)
      · simp only [go_sem, h, hg, hw, hp]
        refine roundK.intro (i + 1) ⟨by omega, fun j hj => ?_⟩ (by omega) ?_
        · by_cases hji : j = i
          · subst hji; exact hp
          · exact hb j (by omega)
        · simp only [go_sem]
      · simp only [go_sem, h, hg, hw, hp]
        rw [findI_stop h hb hp]
    · simp only [go_sem, h]
      rw [findI_none (fun j hj => hb j (by omega))]
      
set_option maxRecDepth 100000 in
theorem con_contains (l : List Int) (v : Int) (hl : l.length ≤ 9223372036854775806) : Con Try.prog 34 [vs 0 l, vi v] [] fun r _ => r = .sc (.bool (l.any fun x => v == x)) := by
  refine Con.intro Try.func34 rfl Try.ntmps34 Try.results34 (by kernel_rfl) (by simp) 0 (by simp) ?_
  simp only [go_sem]
  refine CallU.free (con_index l v hl) (by simp only [go_sem]) (by simp only [go_sem]) ?_
  rintro r bx rfl
  simp only [go_sem, findI_ge]

/-- a function value that tells by p, one call at a time -/
def Tells (f : FuncId) (p : Int → Bool) : Prop := ∀ x, Con Try.prog f [vi x] [] fun r _ => r = .sc (.bool (p x))

set_option maxRecDepth 100000 in
theorem con_indexFunc (l : List Int) (f : FuncId) (p : Int → Bool) (hf : Tells f p) (hl : l.length ≤ 9223372036854775806) : Con Try.prog 52 [vs 0 l, .fn f []] [] fun r _ => r = vi (findI p l) := by
  refine Con.intro Try.func52 rfl Try.ntmps52 Try.results52 (by kernel_rfl) (by simp) 0 (by simp) ?_
  simp only [go_sem]
  refine LoopK.intro (fun i : Nat => ⟨19, [(0, .sl 0 1 (l.map vi)), (1, .fn f []), (7, .sc (.int .i64 l.length)), (8, .sc (.int .i64 i))], []⟩)
    (fun i => l.length - i) (fun i => i ≤ l.length ∧ ∀ j, j < i → p l[j]! = false) 0 ⟨by omega, fun j hj => by omega⟩ ?_ ?_
  · simp only [go_sem]
  · rintro i ⟨hi, hb⟩
    by_cases h : i < l.length
    · have hg := getv h
      have hw : IntKind.i64.wrap (i + 1) = i + 1 := wrap_in (by omega) (by omega)
      simp only [go_sem, h, hg]
      refine CallU.free (hf l[i]!) (by simp only [go_sem]) (by simp only [go_sem]) ?_
      rintro r bx rfl
      cases hp : p l[i]!
      · simp only [go_sem, hp, hw]
        refine roundK.intro (i + 1) ⟨by omega, fun j hj => ?_⟩ (by omega) ?_
        · by_cases hji : j = i
          · subst hji; exact hp
          · exact hb j (by omega)
        · simp only [go_sem]
      · simp only [go_sem, hp]
        rw [findI_stop h hb hp]
    · simp only [go_sem, h]
      rw [findI_none (fun j hj => hb j (by omega))]

set_option maxRecDepth 100000 in
theorem con_containsFunc (l : List Int) (f : FuncId) (p : Int → Bool) (hf : Tells f p) (hl : l.length ≤ 9223372036854775806) : Con Try.prog 38 [vs 0 l, .fn f []] [] fun r _ => r = .sc (.bool (l.any p)) := by
  refine Con.intro Try.func38 rfl Try.ntmps38 Try.results38 (by kernel_rfl) (by simp) 0 (by simp) ?_
  simp only [go_sem]
  refine CallU.free (con_indexFunc l f p hf hl) (by simp only [go_sem]) (by simp only [go_sem]) ?_
  rintro r bx rfl
  simp only [go_sem, findI_ge]
end Go.AM
