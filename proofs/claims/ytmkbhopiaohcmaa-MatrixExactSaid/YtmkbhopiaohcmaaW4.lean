/-
  Walks: Apply; the deck.
-/
import Derived.Test.YtmkbhopiaohcmaaW3
namespace Go.AM
open Go Go.Proofs Go.RowKit

/-- two results: a list, and an error number; nil where there is an error -/
def vpair (r : List Int × Int) : AV := .tup [if r.2 ≠ 0 then .nil else vs 2 r.1, vi r.2]

structure Valid (m : List (List Int)) : Prop where
  pos : 0 < m.length
  le : m.length ≤ 12
  cpos : 0 < m[0]!.length
  cle : m[0]!.length ≤ 12
  small : min m[0]!.length m.length ≤ 6
  row : ∀ row ∈ m, row.length = m[0]!.length ∧ ∀ x ∈ row, -16 ≤ x ∧ x ≤ 16

theorem check_ok {m : List (List Int)} (h : checkF m = 0) : Valid m := by
  unfold checkF at h
  split at h
  · cases h
  · split at h
    · cases h
    · split at h
      · cases h
      · rename_i h1 h2 h3
        refine ⟨by omega, by omega, by omega, by omega, by omega, fun row hr => ?_⟩
        have h3 : m.any (badRow m[0]!.length) = false := by simpa using h3
        rw [List.any_eq_false] at h3
        have h4 : badRow m[0]!.length row = false := by simpa using h3 row hr
        unfold badRow at h4
        rw [Bool.or_eq_false_iff] at h4
        refine ⟨by simpa using h4.1, fun x hx => ?_⟩
        have h5 := h4.2
        rw [List.any_eq_false] at h5
        have h6 : lawBad x = false := by simpa using h5 x hx
        unfold lawBad at h6
        rw [Bool.or_eq_false_iff] at h6
        simp at h6
        omega

theorem Valid.at {m : List (List Int)} (h : Valid m) {i : Nat} (hi : i < m.length) : m[i]!.length = m[0]!.length := (h.row _ (by simp [hi])).1

set_option maxRecDepth 100000 in
theorem con_apply (m : List (List Int)) (v : List Int) (hm : Fits m) (hv : v.length ≤ 140737488355328) : Con Try.prog 16 [vm 0 m, vs 0 v] [] fun r _ => r = vpair (applyF m v) := by
  refine Con.intro Try.func16 rfl Try.ntmps16 Try.results16 (by kernel_rfl) (by simp) 0 (by simp) ?_
  simp only [go_sem]
  refine CallU.free (con_check m hm) (by simp only [go_sem]) (by simp only [go_sem]) ?_
  rintro r bx rfl
  by_cases h1 : checkF m = 0
  · have hV := check_ok h1
    have hp := hV.pos
    have hg := getm hp
    by_cases h2 : v.length = m[0]!.length
    · simp only [go_sem, h1, h2, hp, hg]
      refine CallU.free (con_containsFunc v 39 lawFar con_apply1 (by omega)) (by simp only [go_sem]) (by simp only [go_sem]) ?_
      rintro r bx rfl
      cases h3 : v.any lawFar
      · simp only [go_sem, h3]
        refine LoopK.intro (fun i : Nat => ⟨40, [(1, .sl 0 1 (v.map vi)), (7, .sl 512 1 ((m.take i).map fun row => vi (dotF row v))), (26, .sl 0 1 (m.map (vs 0))), (27, .sc (.int .i64 m.length)), (28, .sc (.int .i64 i))], []⟩)
          (fun i => m.length - i) (fun i => i ≤ m.length) 0 (by omega) ?_ ?_
        · simp only [go_sem]
        · intro i hi
          by_cases h : i < m.length
          · have hgi := getm h
            have hri := hV.at h
            have hle := hV.le
            have hw : IntKind.i64.wrap (i + 1) = i + 1 := wrap_in (by omega) (by omega)
            have hmi : m[i]? = some m[i]! := by simp [h]
            simp only [go_sem, h, hgi, hw]
            refine CallU.free (con_dot m[i]! v (by omega) (hm.at h)) (by simp only [go_sem]) (by simp only [go_sem]) ?_
            rintro r bx rfl
            simp only [go_sem, hw]
            refine ⟨by have := hV.le; simp [roomFor]; omega, roundK.intro (i + 1) (by omega) (by omega) ?_⟩
            simp only [go_sem]
            refine leV_sl ?_
            rw [List.take_add_one, hmi, List.map_append]; rfl
          · have e : m.take i = m := List.take_of_length_le (by omega)
            simp only [go_sem, h, e, vpair, applyF, h1, h2, h3]
            rfl
      · simp only [go_sem, h3, vpair, applyF, h1, h2]
    · simp only [go_sem, h1, h2, hp, hg, vpair, applyF]
  · have hb : (checkF m != 0) = true := bne_iff_ne.2 h1
    simp only [go_sem, hb, vpair, applyF, h1]
end Go.AM
