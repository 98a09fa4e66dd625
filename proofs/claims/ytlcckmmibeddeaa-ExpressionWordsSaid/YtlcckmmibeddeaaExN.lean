/-
 Walks: ref02.Drops, ref09.Same of a product and itself (chapter 9).
-/
import Derived.Test.YtlcckmmibeddeaaX1
namespace Go.AM
open Go Go.Proofs Go.RowKit
set_option maxRecDepth 100000
set_option maxHeartbeats 8000000
theorem con_xrcopy (l : List Int) (h2 : l.length <= 1000000) : Con Try.prog 64 [vs 0 l] [] fun r _ => r = vs 2 l := by
 refine Con.intro Try.func64 rfl Try.ntmps64 Try.results64 (by kernel_rfl) (by simp) 0 (by simp) ?_
 have hr : roomFor l.length 8 := by simp only [roomFor]; omega
 simp only [go_sem, List.length_map, hr]
def putTrA : Tr := .front 0 (.front 1 (.front 4 (.front 8 (.front 9 (.alt (.one 2 (.alt (.one 3 (.alt (.one 5 (.alt (.one 6 (.alt (.one 7 (.one 10 (.one 11 (.one 12 .done)))) (.one 10 (.one 7 (.one 11 (.one 12 .done)))))) (.one 10 (.one 6 (.one 7 (.one 11 (.one 12 .done))))))) (.one 10 (.one 5 (.one 6 (.one 7 (.one 11 (.one 12 .done)))))))) (.one 10 (.one 3 (.one 5 (.one 6 (.one 7 (.one 11 (.one 12 .done))))))))) (.one 10 (.one 2 (.one 3 (.one 5 (.one 6 (.one 7 (.one 11 (.one 12 .done)))))))))))))
theorem con_putA (l : List (List Int)) (v : List Int) (hl : l.length <= 1000) (hv : v.length <= 1000) (hlen : ∀ x ∈ l, x.length <= 1000000) : Con Try.prog 32 [vm 0 l, vs 0 v] [] fun r _ => ∃ l', (r = vm 0 l' /\ (∀ x ∈ l', x ∈ l)) /\ l'.length <= l.length + 1 \/ (r = vm 2 l' /\ (∀ x ∈ l', x ∈ l \/ x = v) /\ l'.length <= l.length + 1) := by
 have hmem : ∀ k, ∀ x ∈ l.take k ++ v :: l.drop k, x ∈ l \/ x = v := fun k x hx => by
  rcases List.mem_append.1 hx with hx | hx
  ·exact .inl (List.mem_of_mem_take hx)
  ·rcases List.mem_cons.1 hx with rfl | hx
   ·exact .inr rfl
   ·exact .inl (List.mem_of_mem_drop hx)
 have hlen2 : ∀ k, (l.take k ++ v :: l.drop k).length <= l.length + 1 := fun k => by
  rw [List.length_append, List.length_cons, List.length_take, List.length_drop]; omega
 refine Con.intro Try.func32 rfl Try.ntmps32 Try.results32 (by kernel_rfl) (by simp) 0 (by simp) ?_
 simp only [go_sem]
 refine LoopK.intro (fun k : Nat => ⟨46, [(0, vm 0 l), (1, vs 0 v), (5, vi k)], []⟩)
  (fun k => l.length - k) (fun k => k <= l.length) 0 (by omega) ?_ ?_
 ·simp only [go_sem]
 rintro k hk
 have htake : List.take l.length (l.map (vs 0)) = l.map (vs 0) := List.take_of_length_le (by simp)
 have hcopy := con_xrcopy v (by omega)
 have hfin : leV (AV.sl 2432 1 (List.take k (List.map (vs 0) l) ++ [AV.sl 0 1 (List.map vi v)] ++ List.drop k (List.map (vs 0) l))) (AV.sl 2432 1 (List.map (vs 0) (List.take k l ++ v :: List.drop k l))) := by
  rw [List.map_append, List.map_cons, List.map_take, List.map_drop, List.append_assoc]
  exact leV_refl _
 by_cases h : k < l.length
 ·have hg := getm h
  have hw : IntKind.i64.wrap (k + 1) = k + 1 := wrap_in (by omega) (by omega)
  have hm := mem_bang h
  have hcmp := con_rcompareI l[k]! v (hlen _ hm)
  simp only [go_sem, h, hg]
  refine CallU.free hcmp (by simp only [go_sem]) (by simp only [go_sem]) ?_
  rintro r bx rfl
  by_cases hlt : cmpI l[k]! v < 0
  ·simp only [go_sem, hlt, hw]
   refine roundK.intro (k + 1) (by omega) (by omega) ?_
   simp only [go_sem]
  have hsame := con_rsameI l[k]! v (hlen _ hm)
  cases hs : (l[k]! == v) with
  | true =>
   rw [hs] at hsame
   simp only [go_sem, hlt, h, hg]
   refine CallU.free hsame (by simp only [go_sem]) (by simp only [go_sem]) ?_
   rintro r bx rfl
   simp only [go_sem]
   exact ⟨l, .inl ⟨⟨rfl, fun x hx => hx⟩, by omega⟩⟩
  | false =>
  rw [hs] at hsame
  simp only [go_sem, hlt, h, hg]
  refine CallU.free hsame (by simp only [go_sem]) (by simp only [go_sem]) ?_
  rintro r bx rfl
  simp only [go_sem]
  refine DrawK.meet ⟨46, [(4, .sl 2432 1 ((l.take k ++ v :: l.drop k).map (vs 0)))], []⟩ ?_ ?_
  ·refine DrawK.tree putTrA mixed (by kernel_rfl) ?_
   unfold putTrA
   simp only [go_sem]
   repeat' (first | with_reducible apply andK_mk | exact trivial | with_reducible refine And.intro ?_ ?_ | exact hk | exact Nat.le_refl _ | exact hfin | (simp only [roomFor, List.length_append, List.length_take, List.length_drop, List.length_map, List.length_cons, List.length_nil]; omega) | (refine CallU.free hcopy (by simp only [go_sem]) (by simp only [go_sem]) ?_; rintro r bx rfl) | simp only [go_sem, htake])
  ·simp only [go_sem]
   exact ⟨l.take k ++ v :: l.drop k, .inr ⟨rfl, hmem k, hlen2 k⟩⟩
 ·have hkl : k = l.length := by omega
  simp only [go_sem, h]
  refine DrawK.meet ⟨46, [(4, .sl 2432 1 ((l.take k ++ v :: l.drop k).map (vs 0)))], []⟩ ?_ ?_
  ·refine DrawK.tree putTrA mixed (by kernel_rfl) ?_
   unfold putTrA
   simp only [go_sem]
   repeat' (first | with_reducible apply andK_mk | exact trivial | with_reducible refine And.intro ?_ ?_ | exact hk | exact Nat.le_refl _ | exact hfin | (simp only [roomFor, List.length_append, List.length_take, List.length_drop, List.length_map, List.length_cons, List.length_nil]; omega) | (refine CallU.free hcopy (by simp only [go_sem]) (by simp only [go_sem]) ?_; rintro r bx rfl) | simp only [go_sem, htake])
  ·simp only [go_sem]
   exact ⟨l.take k ++ v :: l.drop k, .inr ⟨rfl, hmem k, hlen2 k⟩⟩
end Go.AM
