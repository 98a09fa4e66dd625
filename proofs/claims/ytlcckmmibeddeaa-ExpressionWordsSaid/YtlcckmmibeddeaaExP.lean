/-
 Walks: ref09.Same of a product and itself (chapter 9).
-/
import Derived.Test.YtlcckmmibeddeaaExO
import Derived.Test.YtlcckmmibeddeaaLEx4
namespace Go.AM
open Go Go.Proofs Go.RowKit
set_option maxRecDepth 100000
set_option maxHeartbeats 8000000
def cmpTree : Tr := .front 0 (.front 1 (.front 2 (.front 4 (.front 5 (.front 6 (.alt (.one 3 (.one 7 (.one 8 (.one 9 .done)))) (.one 7 (.one 3 (.one 8 (.one 9 .done))))))))))
theorem con_r09termSelf (t : TmD) (hl : t.ls.length <= 1000000) : Con Try.prog 59 [vTm t, vTm t] [] fun r _ => r = vi 0 := by
 refine Con.intro Try.func59 rfl Try.ntmps59 Try.results59 (by kernel_rfl) (by simp) 0 (by simp) ?_
 have hc := con_rcompareI t.ls t.ls hl
 have e : cmpI t.ls t.ls = 0 := cmp_zero.2 rfl
 rw [e] at hc
 cases hs : t.star with
 | true =>
  simp only [go_sem, hs]
  refine CallU.free hc (by simp only [go_sem]) (by simp only [go_sem]) ?_
  rintro r bx rfl
  simp only [go_sem]
 | false =>
  simp only [go_sem, hs]
  refine CallU.free hc (by simp only [go_sem]) (by simp only [go_sem]) ?_
  rintro r bx rfl
  simp only [go_sem]
theorem con_r09CompareSelf (p : List TmD) (hp : LenP p) : Con Try.prog 27 [vPr p, vPr p] [] fun r _ => r = vi 0 := by
 refine Con.intro Try.func27 rfl Try.ntmps27 Try.results27 (by kernel_rfl) (by simp) 0 (by simp) ?_
 have hpl := hp.len
 simp only [go_sem, bne_self_eq_false]
 refine LoopK.intro (fun i : Nat => ⟨35, [(0, vPr p), (1, vPr p), (5, vi i)], []⟩)
  (fun i => p.length - i) (fun i => i <= p.length) 0 (Nat.zero_le _) ?_ ?_
 ·simp only [go_sem]
 rintro i hi
 by_cases h : i < p.length
 case neg =>
  simp only [go_sem, h, List.length_map]
 have hg := getTm h
 have hwi : IntKind.i64.wrap (i + 1) = i + 1 := wrap_in (by omega) (by omega)
 have ht := con_r09termSelf p[i]! (hp.terms _ (mem_bangI h))
 simp only [vTm] at ht
 simp only [go_sem] at ht
 simp only [go_sem, h, List.length_map]
 refine DrawK.tree cmpTree mixed (by kernel_rfl) ?_
 unfold cmpTree
 simp only [go_sem, h, hg, List.length_map]
 apply andK_mk
 all_goals
  try simp only [go_sem, hg]
  refine CallU.free ht (by simp only [go_sem]) (by simp only [go_sem]) ?_
  rintro r bx rfl
  simp only [go_sem, hwi]
  refine roundK.intro (i + 1) (by omega) (by omega) ?_
  simp only [go_sem]
theorem con_r09SameSelf (p : List TmD) (hp : LenP p) : Con Try.prog 11 [vPr p, vPr p] [] fun r _ => r = vb true := by
 refine Con.intro Try.func11 rfl Try.ntmps11 Try.results11 (by kernel_rfl) (by simp) 0 (by simp) ?_
 have hc := con_r09CompareSelf p hp
 simp only [vPr] at hc
 simp only [go_sem]
 refine CallU.free hc (by simp only [go_sem]) (by simp only [go_sem]) ?_
 rintro r bx rfl
 simp only [go_sem]
end Go.AM
