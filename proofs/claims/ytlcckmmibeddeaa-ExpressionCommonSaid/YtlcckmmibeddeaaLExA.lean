/-
 Plain laws: how far a word is embedded, letter by letter (chapter 9).
-/
import Derived.Test.YtlcckmmibeddeaaLEx9
namespace Go.AM
def emb : List Int -> List Int -> Nat
 | [], _ => 0
 | _ :: _, [] => 0
 | x :: w, z :: v => if x = z then emb w v + 1 else emb (x :: w) v
theorem emb_nil (w : List Int) : emb w [] = 0 := by cases w <;> rfl
theorem emb_le : ∀ w v : List Int, emb w v <= w.length
 | [], _ => by rw [emb]; simp
 | _ :: _, [] => by rw [emb]; simp
 | x :: w, z :: v => by
  rw [emb]
  split
  ·have := emb_le w v; simp only [List.length_cons]; omega
  ·exact emb_le (x :: w) v
theorem emb_snoc (y : Int) : ∀ w v : List Int, emb w (v ++ [y]) = if emb w v < w.length /\ w[emb w v]! = y then emb w v + 1 else emb w v
 | [], v => by
  have e : ∀ u : List Int, emb [] u = 0 := fun u => by cases u <;> rfl
  rw [e, e, if_neg (by simp)]
 | x :: w, [] => by
  rw [List.nil_append, emb_nil, emb, emb_nil]
  by_cases h : x = y
  ·rw [if_pos h, if_pos ⟨by simp, h⟩]
  ·rw [if_neg h, if_neg (fun hc => h hc.2), emb_nil]
 | x :: w, z :: v => by
  rw [List.cons_append, emb, emb]
  by_cases h : x = z
  ·rw [if_pos h, if_pos h, emb_snoc y w v]
   by_cases hc : emb w v < w.length /\ w[emb w v]! = y
   ·rw [if_pos hc, if_pos ⟨by simp only [List.length_cons]; omega, by rw [<- hc.2]; rfl⟩]
   ·rw [if_neg hc, if_neg (fun h2 => hc ⟨by have := h2.1; simp only [List.length_cons] at this; omega, by rw [<- h2.2]; rfl⟩)]
  ·rw [if_neg h, if_neg h]; exact emb_snoc y (x :: w) v
theorem emb_sub : ∀ w v : List Int, decide (emb w v < w.length) = !subB w v
 | [], v => by rw [subB]; simp
 | x :: w, [] => by rw [subB, emb]; simp
 | x :: w, z :: v => by
  rw [emb, subB]
  by_cases h : x = z
  ·rw [if_pos h, if_pos h, <- emb_sub w v]
   simp only [List.length_cons, decide_eq_decide]; omega
  ·rw [if_neg h, if_neg h]; exact emb_sub (x :: w) v
theorem emb_step {w v : List Int} {i : Nat} (h : i < v.length) : emb w (v.take (i + 1)) = if emb w (v.take i) < w.length /\ w[emb w (v.take i)]! = v[i]! then emb w (v.take i) + 1 else emb w (v.take i) := by
 rw [List.take_succ_eq_append_getElem h, emb_snoc, <- getElem!_pos v i h]
theorem sub_nil (v : List Int) : subB [] v = true := by cases v <;> rfl
end Go.AM
