/-
  Tables of rows of truth values: how the machine's steps turn them.
-/
import Derived.Test.YthmjnbmooedfjaaW4
namespace Go.AM
open Go Go.Proofs Go.RowKit

/-- the rows of table t -/
def rowsB (t : Nat) (M : List (List Bool)) : List AV := M.mapIdx fun i r => .sl (subT t i) 1 (r.map vb)
def vtb (t : Nat) (M : List (List Bool)) : AV := .so t (rowsB t M)
attribute [go_sem] vtb

@[go_sem] theorem rowsB_len {t : Nat} {M : List (List Bool)} : (rowsB t M).length = M.length := by simp [rowsB]
theorem rowsB_at {t i : Nat} {M : List (List Bool)} : (rowsB t M)[i]? = (M[i]?).map fun r => .sl (subT t i) 1 (r.map vb) := by simp [rowsB, List.getElem?_mapIdx]
theorem gettb {t i : Nat} {M : List (List Bool)} (h : i < M.length) : (rowsB t M)[i]? = some (.sl (subT t i) 1 (M[i]!.map vb)) := by rw [rowsB_at]; simp [h]
@[go_sem] theorem rowsB_nil {t : Nat} : rowsB t [] = [] := rfl

theorem rowsB_ext {t : Nat} {M : List (List Bool)} {l : List AV} (hl : l.length = M.length) (h : ∀ i, i < M.length → l[i]? = some (.sl (subT t i) 1 (M[i]!.map vb))) : l = rowsB t M := by
  apply List.ext_getElem?
  intro i
  by_cases hi : i < M.length
  · rw [h i hi, gettb hi]
  · rw [List.getElem?_eq_none (by omega), List.getElem?_eq_none (by rw [rowsB_len]; omega)]

theorem rowsB_set {t i : Nat} {M : List (List Bool)} {r : List Bool} : (rowsB t M).set i (.sl (subT t i) 1 (r.map vb)) = rowsB t (M.set i r) := by
  refine rowsB_ext (by simp [rowsB_len]) fun j hj => ?_
  rw [List.length_set] at hj
  rw [List.getElem?_set]
  by_cases h : i = j
  · subst h
    rw [if_pos rfl, if_pos (by rw [rowsB_len]; exact hj)]
    simp [hj]
  · rw [if_neg h, gettb hj]
    rw [getElem!_pos M j hj, getElem!_pos (M.set i r) j (by simpa using hj), List.getElem_set_ne h]

@[go_sem] theorem rowsB_snoc {t : Nat} {M : List (List Bool)} {r : List Bool} : rowsB t M ++ [.sl (subT t M.length) 1 (r.map vb)] = rowsB t (M ++ [r]) := by
  refine rowsB_ext (by simp [rowsB_len]) fun j hj => ?_
  rw [List.length_append, List.length_singleton] at hj
  by_cases h : j < M.length
  · rw [List.getElem?_append_left (by rw [rowsB_len]; exact h), gettb h]
    rw [getElem!_pos M j h, getElem!_pos (M ++ [r]) j (by simp; omega), List.getElem_append_left h]
  · have hjl : j = M.length := by omega
    subst hjl
    rw [List.getElem?_append_right (by rw [rowsB_len]; omega), rowsB_len]
    simp

theorem rowsB_map {t t' : Nat} {M : List (List Bool)} {f : AV → AV} (h : ∀ i r, f (.sl (subT t i) 1 (List.map vb r)) = .sl (subT t' i) 1 (List.map vb r)) : (rowsB t M).map f = rowsB t' M := by
  refine rowsB_ext (by simp [rowsB_len]) fun j hj => ?_
  rw [List.getElem?_map, gettb hj, Option.map_some, h]
theorem rowsB_frz {t : Nat} {M : List (List Bool)} {f : AV → AV} (h : ∀ i r, f (.sl (subT t i) 1 (List.map vb r)) = .sl 0 1 (List.map vb r)) : (rowsB t M).map f = M.map (vbl 0) := by
  apply List.ext_getElem?
  intro j
  rw [List.getElem?_map, rowsB_at, List.getElem?_map]
  cases M[j]? with
  | none => rfl
  | some r => simp [h, vbl]

@[go_sem] theorem rowsB_killlit {t t0 : Nat} {M : List (List Bool)} (h : t0 < 1048576) : (rowsB t M).map (killRow t0) = rowsB t M := rowsB_map fun i r => by simp only [killRow, sub_lit h, if_false]
@[go_sem] theorem rowsB_storelit {t t0 es i o : Nat} {ys : List AV} {M : List (List Bool)} (h : t0 < 1048576) : (rowsB t M).map (storeRow t0 es i o ys) = rowsB t M := rowsB_map fun i r => by simp only [storeRow, sub_lit h, if_false]
@[go_sem] theorem rowsB_view {t : Nat} {M : List (List Bool)} : (rowsB t M).map viewRow = M.map (vbl 0) := rowsB_frz fun i r => by simp only [viewRow, sub_two, if_true]
@[go_sem] theorem rowsB_shift {t k : Nat} {M : List (List Bool)} (h : t + k < 1048576) : (rowsB t M).map (shiftRow k) = rowsB (t + k) M := rowsB_map fun i r => by simp only [shiftRow, shiftTag, sub_lt2, if_false, sub_add h]
@[go_sem] theorem rowsB_ren {t : Nat} {ts : List Nat} {M : List (List Bool)} (h : t < 1048576) (h2 : 2 + ts.idxOf t < 1048576) : (rowsB t M).map (renRow ts) = rowsB (2 + ts.idxOf t) M := rowsB_map fun i r => by simp only [renRow, sub_two, if_true, renT_sub h h2]
theorem rowsB_freeze {t : Nat} {p : Nat → Bool} {M : List (List Bool)} (h : p (root t) = true) : (rowsB t M).map (freezeRow p) = M.map (vbl 0) := rowsB_frz fun i r => by simp only [freezeRow, sub_two, root_sub, h, and_self, if_true]
@[go_sem] theorem rowsB_freezeT {t : Nat} {M : List (List Bool)} : (rowsB t M).map (freezeRow fun _ => true) = M.map (vbl 0) := rowsB_freeze rfl
@[go_sem] theorem rowsB_retaglit {t a s j : Nat} {M : List (List Bool)} (h : a < 1048576) (hs : (t = s) = False) : (rowsB t M).map (retagRow a (subT s j)) = rowsB t M := rowsB_map fun i r => by simp only [retagRow, sub_lit h, if_false, sub_sub, hs, false_and]
/-- a row that is not there yet -/
@[go_sem] theorem rowsB_retagnew {t a : Nat} {M : List (List Bool)} (h : a < 1048576) : (rowsB t M).map (retagRow a (subT t M.length)) = rowsB t M := by
  refine rowsB_ext (by simp [rowsB_len]) fun j hj => ?_
  rw [List.getElem?_map, gettb hj, Option.map_some]
  have : ¬ j = M.length := by omega
  simp only [retagRow, sub_lit h, if_false, sub_sub, true_and, this]
theorem rowsB_retagsub {t s j : Nat} {M : List (List Bool)} (hs : (t = s) = False) : (rowsB t M).map (retagRow (subT s j) (subT t M.length)) = rowsB t M := by
  refine rowsB_ext (by simp [rowsB_len]) fun j' hj => ?_
  rw [List.getElem?_map, gettb hj, Option.map_some]
  have : ¬ j' = M.length := by omega
  simp only [retagRow, sub_sub, hs, false_and, if_false, true_and, this]
attribute [go_sem] rowsB_retagsub
@[go_sem] theorem rowsB_killnew {t : Nat} {M : List (List Bool)} : (rowsB t M).map (killRow (subT t M.length)) = rowsB t M := by
  refine rowsB_ext (by simp [rowsB_len]) fun j hj => ?_
  rw [List.getElem?_map, gettb hj, Option.map_some]
  have : ¬ j = M.length := by omega
  simp only [killRow, sub_sub, true_and, this, if_false]
@[go_sem] theorem rowsB_retagout {t s j : Nat} {M : List (List Bool)} (hs : (t = s) = False) : (rowsB t M).map (retagRow (subT t M.length) (subT s j)) = rowsB t M := by
  refine rowsB_ext (by simp [rowsB_len]) fun j' hj => ?_
  rw [List.getElem?_map, gettb hj, Option.map_some]
  have : ¬ j' = M.length := by omega
  simp only [retagRow, sub_sub, true_and, this, if_false, hs, false_and]
/-- a row forgotten, then laid anew -/
theorem rowsB_killset {t i : Nat} {M : List (List Bool)} {r : List Bool} : ((rowsB t M).map (killRow (subT t i))).set i (.sl (subT t i) 1 (r.map vb)) = rowsB t (M.set i r) := by
  refine rowsB_ext (by simp [rowsB_len]) fun j hj => ?_
  rw [List.length_set] at hj
  rw [List.getElem?_set]
  by_cases h : i = j
  · subst h
    rw [if_pos rfl, if_pos (by simp [rowsB_len]; exact hj)]
    simp [hj]
  · rw [if_neg h, List.getElem?_map, gettb hj, Option.map_some]
    simp only [killRow, sub_sub, true_and, if_neg (Ne.symm h)]
    rw [getElem!_pos M j hj, getElem!_pos (M.set i r) j (by simpa using hj), List.getElem_set_ne h]
theorem modify_vb' {l : List Bool} {i : Nat} {x : Bool} : (l.map vb).modify i (updElem 0 [.sc (.bool x)]) = (l.set i x).map vb := by
  apply List.ext_getElem?
  intro j
  simp only [List.getElem?_modify, List.getElem?_map, List.getElem?_set]
  by_cases h : i = j
  · subst h
    by_cases hi : i < l.length
    · simp [hi, updElem, vb]
    · simp [hi]
  · simp [h]
/-- a number stored into a row -/
@[go_sem] theorem rowsB_store {t i k : Nat} {x : Bool} {M : List (List Bool)} : (rowsB t M).map (storeRow (subT t i) 1 k 0 [.sc (.bool x)]) = rowsB t (M.set i (M[i]!.set k x)) := by
  refine rowsB_ext (by simp [rowsB_len]) fun j hj => ?_
  rw [List.length_set] at hj
  rw [List.getElem?_map, gettb hj, Option.map_some]
  by_cases h : j = i
  · subst h
    simp only [storeRow, if_true, updAt]
    rw [modify_vb']
    simp [hj]
  · simp only [storeRow, sub_sub, true_and, if_neg h]
    rw [getElem!_pos M j hj, getElem!_pos (M.set i _) j (by simpa using hj), List.getElem_set_ne (Ne.symm h)]
/-- empty rows -/
theorem rowsLe_nilsb {t n : Nat} : rowsLe (root t) (List.replicate n .nil) (rowsB t (List.replicate n [])) := by
  refine ⟨by simp [rowsB_len], fun j x y hx hy => ?_⟩
  have hj : j < n := by have := (List.getElem?_eq_some_iff.1 hx).1; simpa using this
  rw [gettb (by simpa using hj)] at hy
  simp only [Option.some.injEq] at hy
  simp [hj] at hx
  subst hx; subst hy
  have e : (List.replicate n ([] : List Bool))[j]! = [] := by rw [getElem!_pos _ _ (by simpa using hj)]; simp
  rw [e]
  exact ⟨rfl, .inr (.inr ⟨rfl, subT t j, 1, by have := sub_big t j; omega, root_sub t j, rfl⟩)⟩
end Go.AM
