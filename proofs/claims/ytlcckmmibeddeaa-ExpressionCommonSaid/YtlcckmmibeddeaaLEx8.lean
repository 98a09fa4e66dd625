/-
 Plain laws: products in order, insertion sort's invariant (chapter 9); turned from MxSort by a program.
-/
import Derived.Test.YtlcckmmibeddeaaX1
namespace Go.AM
theorem cmpPr_le {a b c : List TmD} (h1 : cmpPr a b <= 0) (h2 : cmpPr b c <= 0) : cmpPr a c <= 0 := by
 by_cases e1 : cmpPr a b = 0
 ·rw [(ord_Pr.zero _ _).1 e1]; exact h2
 ·by_cases e2 : cmpPr b c = 0
  ·rw [<- (ord_Pr.zero _ _).1 e2]; exact h1
  ·have := ord_Pr.trans a b c (by omega) (by omega); omega
theorem cmpPr_total (a b : List TmD) : cmpPr a b <= 0 \/ cmpPr b a <= 0 := by
 have := ord_Pr.anti a b
 omega
def AscLP (l : List (List TmD)) : Prop := l.Pairwise fun x y => cmpPr x y <= 0
theorem asc_oneP {l l' : List (List TmD)} (h : AscLP l) (h' : AscLP l') (hp : l.Perm l') : l = l' :=
 List.Perm.eq_of_pairwise (fun a b _ _ h1 h2 => (ord_Pr.zero _ _).1 (by have := ord_Pr.anti a b; omega)) h h' hp
def ascFP (l : List (List TmD)) : List (List TmD) := l.mergeSort fun x y => decide (cmpPr x y <= 0)
theorem asc_permP (l : List (List TmD)) : (ascFP l).Perm l := List.mergeSort_perm _ _
theorem asc_ascP (l : List (List TmD)) : AscLP (ascFP l) := by
 have := List.pairwise_mergeSort (le := fun x y => decide (cmpPr x y <= 0)) (fun a b c h1 h2 => by
  simp only [decide_eq_true_eq] at *; exact cmpPr_le h1 h2) (fun a b => by
  rcases cmpPr_total a b with h | h <;> simp [h]) l
 exact this.imp fun h => by simpa using h
theorem asc_eqP {l l' : List (List TmD)} (h : AscLP l') (hp : l'.Perm l) : l' = ascFP l := asc_oneP h (asc_ascP l) (hp.trans (asc_permP l).symm)
theorem bang_setRP {l : List (List TmD)} {q j : Nat} {x : List TmD} (h : q < l.length) : (l.set q x)[j]! = if j = q then x else l[j]! := by
 by_cases hj : j < l.length
 ·rw [getElem!_pos _ j (by rw [List.length_set]; exact hj), getElem!_pos l j hj, List.getElem_set]
  by_cases e : q = j
  ·subst e; simp
  ·rw [if_neg e, if_neg (fun h => e h.symm)]
 ·rw [getElem!_neg _ j (by rw [List.length_set]; exact hj), getElem!_neg l j hj, if_neg (by omega)]
def swapRP (l : List (List TmD)) (j : Nat) : List (List TmD) := (l.set (j + 1) l[j]!).set j l[j + 1]!
theorem swapR_lenP (l : List (List TmD)) (j : Nat) : (swapRP l j).length = l.length := by simp [swapRP]
theorem swapR_atP {l : List (List TmD)} {j k : Nat} (h : j + 1 < l.length) : (swapRP l j)[k]! = if k = j then l[j + 1]! else if k = j + 1 then l[j]! else l[k]! := by
 unfold swapRP
 rw [bang_setRP (by rw [List.length_set]; omega), bang_setRP h]
theorem swapR_permP {l : List (List TmD)} {j : Nat} (h : j + 1 < l.length) : (swapRP l j).Perm l := by
 unfold swapRP
 rw [getElem!_pos l j (by omega), getElem!_pos l (j + 1) h]
 exact List.set_set_perm h (by omega)
structure SinkRP (l D : List (List TmD)) (i j : Nat) : Prop where
 perm : D.Perm l
 ji : j <= i
 ord : ∀ p q, p < q -> q <= i -> q ≠ j -> cmpPr D[p]! D[q]! <= 0
theorem SinkRP.len {l D : List (List TmD)} {i j : Nat} (h : SinkRP l D i j) : D.length = l.length := h.perm.length_eq
theorem SinkRP.step {l D : List (List TmD)} {i j : Nat} (h : SinkRP l D i (j + 1)) (hi : i < l.length) (hc : cmpPr D[j + 1]! D[j]! < 0) : SinkRP l (swapRP D j) i j := by
 have hji := h.ji
 have hl : j + 1 < D.length := by rw [h.len]; omega
 refine ⟨(swapR_permP hl).trans h.perm, by omega, fun p q hpq hqi hqj => ?_⟩
 rw [swapR_atP hl, swapR_atP hl, if_neg hqj]
 by_cases e1 : q = j + 1
 ·rw [if_pos e1]
  by_cases e2 : p = j
  ·rw [if_pos e2]; omega
  ·rw [if_neg e2, if_neg (by omega)]
   exact h.ord p j (by omega) (by omega) (by omega)
 ·rw [if_neg e1]
  by_cases e2 : p = j
  ·rw [if_pos e2]
   exact h.ord (j + 1) q (by omega) hqi e1
  ·rw [if_neg e2]
   by_cases e3 : p = j + 1
   ·rw [if_pos e3]
    exact h.ord j q (by omega) hqi e1
   ·rw [if_neg e3]
    exact h.ord p q hpq hqi e1
theorem SinkRP.stop {l D : List (List TmD)} {i j : Nat} (h : SinkRP l D i j) (hs : j = 0 \/ 0 <= cmpPr D[j]! D[j - 1]!) : ∀ p q, p < q -> q <= i -> cmpPr D[p]! D[q]! <= 0 := by
 intro p q hpq hqi
 by_cases e : q = j
 ·subst e
  have hs : 0 <= cmpPr D[q]! D[q - 1]! := hs.elim (fun h => by omega) id
  have h1 : cmpPr D[q - 1]! D[q]! <= 0 := by have := ord_Pr.anti D[q - 1]! D[q]!; omega
  by_cases e2 : p = q - 1
  ·rw [e2]; exact h1
  ·exact cmpPr_le (h.ord p (q - 1) (by omega) (by omega) (by omega)) h1
 ·exact h.ord p q hpq hqi e
theorem SinkRP.start {l D : List (List TmD)} {i : Nat} (hp : D.Perm l) (ho : ∀ p q, p < q -> q < i -> cmpPr D[p]! D[q]! <= 0) : SinkRP l D i i :=
 ⟨hp, Nat.le_refl _, fun p q h1 h2 h3 => ho p q h1 (by omega)⟩
theorem asc_ofP {D : List (List TmD)} (h : ∀ p q, p < q -> q < D.length -> cmpPr D[p]! D[q]! <= 0) : AscLP D := by
 unfold AscLP
 rw [List.pairwise_iff_getElem]
 intro p q hp hq hpq
 have := h p q hpq hq
 rwa [getElem!_pos D p hp, getElem!_pos D q hq] at this
end Go.AM
