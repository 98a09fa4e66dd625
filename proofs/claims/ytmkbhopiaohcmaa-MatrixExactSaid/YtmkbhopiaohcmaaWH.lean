/-
  Tables of rows of numbers: how the machine's steps turn them.
-/
import Derived.Test.YtmkbhopiaohcmaaW1
namespace Go.AM
open Go Go.Proofs Go.RowKit

/-- the rows of table t -/
def rowsA (t : Nat) (M : List (List Int)) : List AV := M.mapIdx fun i r => .sl (subT t i) 1 (r.map vi)
def vt (t : Nat) (M : List (List Int)) : AV := .so t (rowsA t M)
attribute [go_sem] vt

@[go_sem] theorem rowsA_len {t : Nat} {M : List (List Int)} : (rowsA t M).length = M.length := by simp [rowsA]
theorem rowsA_at {t i : Nat} {M : List (List Int)} : (rowsA t M)[i]? = (M[i]?).map fun r => .sl (subT t i) 1 (r.map vi) := by simp [rowsA, List.getElem?_mapIdx]
theorem gett {t i : Nat} {M : List (List Int)} (h : i < M.length) : (rowsA t M)[i]? = some (.sl (subT t i) 1 (M[i]!.map vi)) := by rw [rowsA_at]; simp [h]
@[go_sem] theorem rowsA_nil {t : Nat} : rowsA t [] = [] := rfl

theorem rowsA_ext {t : Nat} {M : List (List Int)} {l : List AV} (hl : l.length = M.length) (h : ∀ i, i < M.length → l[i]? = some (.sl (subT t i) 1 (M[i]!.map vi))) : l = rowsA t M := by
  apply List.ext_getElem?
  intro i
  by_cases hi : i < M.length
  · rw [h i hi, gett hi]
  · rw [List.getElem?_eq_none (by omega), List.getElem?_eq_none (by rw [rowsA_len]; omega)]

theorem rowsA_set {t i : Nat} {M : List (List Int)} {r : List Int} : (rowsA t M).set i (.sl (subT t i) 1 (r.map vi)) = rowsA t (M.set i r) := by
  refine rowsA_ext (by simp [rowsA_len]) fun j hj => ?_
  rw [List.length_set] at hj
  rw [List.getElem?_set]
  by_cases h : i = j
  · subst h
    rw [if_pos rfl, if_pos (by rw [rowsA_len]; exact hj)]
    simp [hj]
  · rw [if_neg h, gett hj]
    rw [getElem!_pos M j hj, getElem!_pos (M.set i r) j (by simpa using hj), List.getElem_set_ne h]

@[go_sem] theorem rowsA_snoc {t : Nat} {M : List (List Int)} {r : List Int} : rowsA t M ++ [.sl (subT t M.length) 1 (r.map vi)] = rowsA t (M ++ [r]) := by
  refine rowsA_ext (by simp [rowsA_len]) fun j hj => ?_
  rw [List.length_append, List.length_singleton] at hj
  by_cases h : j < M.length
  · rw [List.getElem?_append_left (by rw [rowsA_len]; exact h), gett h]
    rw [getElem!_pos M j h, getElem!_pos (M ++ [r]) j (by simp; omega), List.getElem_append_left h]
  · have hjl : j = M.length := by omega
    subst hjl
    rw [List.getElem?_append_right (by rw [rowsA_len]; omega), rowsA_len]
    simp

theorem rowsA_map {t t' : Nat} {M : List (List Int)} {f : AV → AV} (h : ∀ i r, f (.sl (subT t i) 1 (List.map vi r)) = .sl (subT t' i) 1 (List.map vi r)) : (rowsA t M).map f = rowsA t' M := by
  refine rowsA_ext (by simp [rowsA_len]) fun j hj => ?_
  rw [List.getElem?_map, gett hj, Option.map_some, h]
theorem rowsA_frz {t : Nat} {M : List (List Int)} {f : AV → AV} (h : ∀ i r, f (.sl (subT t i) 1 (List.map vi r)) = .sl 0 1 (List.map vi r)) : (rowsA t M).map f = M.map (vs 0) := by
  apply List.ext_getElem?
  intro j
  rw [List.getElem?_map, rowsA_at, List.getElem?_map]
  cases M[j]? with
  | none => rfl
  | some r => simp [h, vs]

@[go_sem] theorem rowsA_killlit {t t0 : Nat} {M : List (List Int)} (h : t0 < 1048576) : (rowsA t M).map (killRow t0) = rowsA t M := rowsA_map fun i r => by simp only [killRow, sub_lit h, if_false]
@[go_sem] theorem rowsA_storelit {t t0 es i o : Nat} {ys : List AV} {M : List (List Int)} (h : t0 < 1048576) : (rowsA t M).map (storeRow t0 es i o ys) = rowsA t M := rowsA_map fun i r => by simp only [storeRow, sub_lit h, if_false]
@[go_sem] theorem rowsA_view {t : Nat} {M : List (List Int)} : (rowsA t M).map viewRow = M.map (vs 0) := rowsA_frz fun i r => by simp only [viewRow, sub_two, if_true]
@[go_sem] theorem rowsA_shift {t k : Nat} {M : List (List Int)} (h : t + k < 1048576) : (rowsA t M).map (shiftRow k) = rowsA (t + k) M := rowsA_map fun i r => by simp only [shiftRow, shiftTag, sub_lt2, if_false, sub_add h]
@[go_sem] theorem rowsA_ren {t : Nat} {ts : List Nat} {M : List (List Int)} (h : t < 1048576) (h2 : 2 + ts.idxOf t < 1048576) : (rowsA t M).map (renRow ts) = rowsA (2 + ts.idxOf t) M := rowsA_map fun i r => by simp only [renRow, sub_two, if_true, renT_sub h h2]
theorem rowsA_freeze {t : Nat} {p : Nat → Bool} {M : List (List Int)} (h : p (root t) = true) : (rowsA t M).map (freezeRow p) = M.map (vs 0) := rowsA_frz fun i r => by simp only [freezeRow, sub_two, root_sub, h, and_self, if_true]
@[go_sem] theorem rowsA_freezeT {t : Nat} {M : List (List Int)} : (rowsA t M).map (freezeRow fun _ => true) = M.map (vs 0) := rowsA_freeze rfl
@[go_sem] theorem rowsA_retaglit {t a s j : Nat} {M : List (List Int)} (h : a < 1048576) (hs : (t = s) = False) : (rowsA t M).map (retagRow a (subT s j)) = rowsA t M := rowsA_map fun i r => by simp only [retagRow, sub_lit h, if_false, sub_sub, hs, false_and]
/-- a row that is not there yet -/
@[go_sem] theorem rowsA_retagnew {t a : Nat} {M : List (List Int)} (h : a < 1048576) : (rowsA t M).map (retagRow a (subT t M.length)) = rowsA t M := by
  refine rowsA_ext (by simp [rowsA_len]) fun j hj => ?_
  rw [List.getElem?_map, gett hj, Option.map_some]
  have : ¬ j = M.length := by omega
  simp only [retagRow, sub_lit h, if_false, sub_sub, true_and, this]
theorem rowsA_retagsub {t s j : Nat} {M : List (List Int)} (hs : (t = s) = False) : (rowsA t M).map (retagRow (subT s j) (subT t M.length)) = rowsA t M := by
  refine rowsA_ext (by simp [rowsA_len]) fun j' hj => ?_
  rw [List.getElem?_map, gett hj, Option.map_some]
  have : ¬ j' = M.length := by omega
  simp only [retagRow, sub_sub, hs, false_and, if_false, true_and, this]
attribute [go_sem] rowsA_retagsub
@[go_sem] theorem rowsA_killnew {t : Nat} {M : List (List Int)} : (rowsA t M).map (killRow (subT t M.length)) = rowsA t M := by
  refine rowsA_ext (by simp [rowsA_len]) fun j hj => ?_
  rw [List.getElem?_map, gett hj, Option.map_some]
  have : ¬ j = M.length := by omega
  simp only [killRow, sub_sub, true_and, this, if_false]
@[go_sem] theorem rowsA_retagout {t s j : Nat} {M : List (List Int)} (hs : (t = s) = False) : (rowsA t M).map (retagRow (subT t M.length) (subT s j)) = rowsA t M := by
  refine rowsA_ext (by simp [rowsA_len]) fun j' hj => ?_
  rw [List.getElem?_map, gett hj, Option.map_some]
  have : ¬ j' = M.length := by omega
  simp only [retagRow, sub_sub, true_and, this, if_false, hs, false_and]
/-- a row forgotten, then laid anew -/
theorem rowsA_killset {t i : Nat} {M : List (List Int)} {r : List Int} : ((rowsA t M).map (killRow (subT t i))).set i (.sl (subT t i) 1 (r.map vi)) = rowsA t (M.set i r) := by
  refine rowsA_ext (by simp [rowsA_len]) fun j hj => ?_
  rw [List.length_set] at hj
  rw [List.getElem?_set]
  by_cases h : i = j
  · subst h
    rw [if_pos rfl, if_pos (by simp [rowsA_len]; exact hj)]
    simp [hj]
  · rw [if_neg h, List.getElem?_map, gett hj, Option.map_some]
    simp only [killRow, sub_sub, true_and, if_neg (Ne.symm h)]
    rw [getElem!_pos M j hj, getElem!_pos (M.set i r) j (by simpa using hj), List.getElem_set_ne h]
theorem modify_vi' {l : List Int} {i : Nat} {x : Int} : (l.map vi).modify i (updElem 0 [.sc (.int .i64 x)]) = (l.set i x).map vi := by
  apply List.ext_getElem?
  intro j
  simp only [List.getElem?_modify, List.getElem?_map, List.getElem?_set]
  by_cases h : i = j
  · subst h
    by_cases hi : i < l.length
    · simp [hi, updElem, vi]
    · simp [hi]
  · simp [h]
/-- a number stored into a row -/
@[go_sem] theorem rowsA_store {t i k : Nat} {x : Int} {M : List (List Int)} : (rowsA t M).map (storeRow (subT t i) 1 k 0 [.sc (.int .i64 x)]) = rowsA t (M.set i (M[i]!.set k x)) := by
  refine rowsA_ext (by simp [rowsA_len]) fun j hj => ?_
  rw [List.length_set] at hj
  rw [List.getElem?_map, gett hj, Option.map_some]
  by_cases h : j = i
  · subst h
    simp only [storeRow, if_true, updAt]
    rw [modify_vi']
    simp [hj]
  · simp only [storeRow, sub_sub, true_and, if_neg h]
    rw [getElem!_pos M j hj, getElem!_pos (M.set i _) j (by simpa using hj), List.getElem_set_ne (Ne.symm h)]
/-- empty rows -/
theorem rowsLe_nils {t n : Nat} : rowsLe (root t) (List.replicate n .nil) (rowsA t (List.replicate n [])) := by
  refine ⟨by simp [rowsA_len], fun j x y hx hy => ?_⟩
  have hj : j < n := by have := (List.getElem?_eq_some_iff.1 hx).1; simpa using this
  rw [gett (by simpa using hj)] at hy
  simp only [Option.some.injEq] at hy
  simp [hj] at hx
  subst hx; subst hy
  have e : (List.replicate n ([] : List Int))[j]! = [] := by rw [getElem!_pos _ _ (by simpa using hj)]; simp
  rw [e]
  exact ⟨rfl, .inr (.inr ⟨rfl, subT t j, 1, by have := sub_big t j; omega, root_sub t j, rfl⟩)⟩
end Go.AM
