/-
 Walks: slices.SortFunc of at most 12 products by expression.Compare (chapter 9); printed by gen_exs.py.
-/
import Derived.Test.YtlcckmmibeddeaaExR
import Derived.Test.YtlcckmmibeddeaaX1
import Derived.Test.YtlcckmmibeddeaaLEx8
namespace Go.AM
open Go Go.Proofs Go.RowKit
set_option maxRecDepth 100000
set_option maxHeartbeats 8000000
def insSPt : Tr := .front 0 (.front 1 (.front 2 (.front 3 (.front 5 (.front 6 (.front 10 (.front 11 (.front 12 (.alt (.one 4 (.alt (.one 7 (.front 8 (.alt (.one 9 (.one 13 (.front 14 (.one 15 (.front 16 (.one 17 .done)))))) (.one 13 (.one 9 (.front 14 (.one 15 (.front 16 (.one 17 .done))))))))) (.one 13 (.one 7 (.front 8 (.one 9 (.front 14 (.one 15 (.front 16 (.one 17 .done)))))))))) (.alt (.one 7 (.front 8 (.alt (.one 4 (.alt (.one 9 (.one 13 (.front 14 (.one 15 (.front 16 (.one 17 .done)))))) (.one 13 (.one 9 (.front 14 (.one 15 (.front 16 (.one 17 .done)))))))) (.alt (.one 9 (.alt (.one 4 (.one 13 (.front 14 (.one 15 (.front 16 (.one 17 .done)))))) (.one 13 (.front 14 (.alt (.one 4 (.one 15 (.front 16 (.one 17 .done)))) (.one 15 (.one 4 (.front 16 (.one 17 .done))))))))) (.one 13 (.alt (.one 4 (.one 9 (.front 14 (.one 15 (.front 16 (.one 17 .done)))))) (.one 9 (.front 14 (.alt (.one 4 (.one 15 (.front 16 (.one 17 .done)))) (.one 15 (.one 4 (.front 16 (.one 17 .done))))))))))))) (.one 13 (.alt (.one 4 (.one 7 (.front 8 (.one 9 (.front 14 (.one 15 (.front 16 (.one 17 .done)))))))) (.one 7 (.front 8 (.alt (.one 4 (.one 9 (.front 14 (.one 15 (.front 16 (.one 17 .done)))))) (.one 9 (.front 14 (.alt (.one 4 (.one 15 (.front 16 (.one 17 .done)))) (.one 15 (.one 4 (.front 16 (.one 17 .done))))))))))))))))))))))
theorem conw_insertP (l : List (List TmD)) (h0 : 0 < l.length) (hl : l.length <= 12) (hr : ∀ x ∈ l, LenP x) :
  ConW Try.prog 90 [.sl 2 1 (l.map vPr), vi 0, vi l.length, .fn 70 []] fun r ys => r = .tup [] /\ ys = [.sl 2 1 ((ascFP l).map vPr), vi 0, vi l.length, .fn 70 []] := by
 refine ConW.intro Try.func90 rfl Try.ntmps90 Try.results90 (by kernel_rfl) (by simp) ?_
 have w1 : IntKind.i64.wrap 1 = 1 := wrap_in (by omega) (by omega)
 simp only [go_sem, w1]
 refine LoopK.intro (fun p : Nat × List (List TmD) => ⟨53, [(0, .sl 2 1 (p.2.map vPr)), (1, vi 0), (2, vi l.length), (3, .fn 70 []), (8, vi p.1)], [[.sl 2 1 (p.2.map vPr), vi 0, vi l.length, .fn 70 []]]⟩)
  (fun p => l.length - p.1) (fun p => 1 <= p.1 /\ p.1 <= l.length /\ p.2.Perm l /\ ∀ i j, i < j -> j < p.1 -> cmpPr p.2[i]! p.2[j]! <= 0) (1, l) ⟨by show 1 <= 1; omega, by show 1 <= l.length; omega, List.Perm.refl _, fun i j h1 h2 => by simp only at h2; omega⟩ ?_ ?_
 ·simp only [go_sem]
 rintro ⟨i, D⟩ ⟨g1, g2, g3, g4⟩
 simp only at g1 g2 g3 g4
 have hDl := g3.length_eq
 by_cases hi : i < l.length
 case neg =>
  have hil : i = l.length := by omega
  have hasc : D = ascFP l := asc_eqP (asc_ofP fun p q h1 h2 => g4 p q h1 (by omega)) g3
  simp only [go_sem, hi, hasc]
 have hw : IntKind.i64.wrap (i + 1) = i + 1 := wrap_in (by omega) (by omega)
 simp only [go_sem, hi]
 refine LoopK.intro (fun p : Nat × List (List TmD) => ⟨53, [(0, .sl 2 1 (p.2.map vPr)), (1, vi 0), (2, vi l.length), (3, .fn 70 []), (8, vi i), (9, vi p.1)], [[.sl 2 1 (p.2.map vPr), vi 0, vi l.length, .fn 70 []]]⟩)
  (fun p => p.1) (fun p => SinkRP l p.2 i p.1) (i, D) (SinkRP.start g3 g4) ?_ ?_
 ·simp only [go_sem]
 rintro ⟨j, D2⟩ hS
 simp only at hS
 have hl2 := hS.len
 have hji := hS.ji
 simp only [go_sem]
 refine DrawK.walk 17 mixed (by kernel_rfl) ?_
 cases j with
 | zero =>
  have hz : ¬ (0 : Int) < ((0 : Nat) : Int) := by omega
  simp only [go_sem, hw]
  refine roundK.intro (i + 1, D2) ⟨by show 1 <= i + 1; omega, by show i + 1 <= l.length; omega, hS.perm, fun p q h1 h2 => hS.stop (.inl rfl) p q h1 (by simp only at h2; omega)⟩ (by show l.length - (i + 1) < l.length - i; omega) ?_
  simp only [go_sem]
 | succ k =>
  have h1 : k + 1 < D2.length := by omega
  have h2 : k < D2.length := by omega
  have hz : (0 : Int) < (k : Int) + 1 := by omega
  have hwk : IntKind.i64.wrap ((k : Int) + 1 - 1) = (k : Int) := by rw [wrap_in (by omega) (by omega)]; omega
  have ht : ((k : Int) + 1).toNat = k + 1 := by omega
  have hnn : (0 : Int) <= (k : Int) + 1 := by omega
  have hq : (k : Int) + 1 < (D2.length : Int) := by omega
  have q1 := getPr h1
  have q2 := getPr h2
  have hc := con_xCompare D2[k + 1]! D2[k]! (hr _ (hS.perm.subset (mem_bangI h1))) (hr _ (hS.perm.subset (mem_bangI h2)))
  simp only [go_sem, hz, hwk, ht, hnn, hq, h2, q1, q2]
  refine CallY.mk hc (by simp only [go_sem]) (by simp only [go_sem]) (.inl (by simp only [go_sem])) ?_
  by_cases hneg : cmpPr D2[k + 1]! D2[k]! < 0
  ·have sl := swapR_lenP D2 k
   have hs1 := mod_Pr (x := D2[k]!) h1
   have hs2 := mod_Pr (D := D2.set (k + 1) D2[k]!) (x := D2[k + 1]!) (q := k) (by rw [List.length_set]; exact h2)
   have hsw : (D2.set (k + 1) D2[k]!).set k D2[k + 1]! = swapRP D2 k := rfl
   rw [hsw] at hs2
   simp only [show ∀ x : List TmD, vPr x = AV.sl 0 2 (x.map vTm) from fun _ => rfl] at hs1 hs2
   simp only [go_sem, hneg]
   refine DrawK.meet ⟨53, [(0, .sl 2 1 ((swapRP D2 k).map vPr)), (1, vi 0), (2, vi l.length), (3, .fn 70 []), (8, vi i), (9, vi ((k : Int) + 1))], [[.sl 2 1 ((swapRP D2 k).map vPr), vi 0, vi l.length, .fn 70 []]]⟩ ?_ ?_
   ·refine DrawK.tree insSPt mixed (by kernel_rfl) ?_
    unfold insSPt
    repeat' (first | with_reducible apply andK_mk | exact trivial | simp only [go_sem, hwk, ht, hnn, hq, h2, q1, q2, hs1, hs2, List.length_set, List.length_map])
   ·simp only [go_sem, hwk]
    refine roundK.intro (k, swapRP D2 k) (hS.step (by omega) hneg) (by show k < k + 1; omega) ?_
    simp only [go_sem]
  ·simp only [go_sem, hneg, hw]
   refine roundK.intro (i + 1, D2) ⟨by show 1 <= i + 1; omega, by show i + 1 <= l.length; omega, hS.perm, fun p q h1 h2 => hS.stop (.inr (by simp only [Nat.add_sub_cancel]; omega)) p q h1 (by simp only at h2; omega)⟩ (by show l.length - (i + 1) < l.length - i; omega) ?_
   simp only [go_sem]
theorem conw_pdqP (l : List (List TmD)) (h0 : 0 < l.length) (hl : l.length <= 12) (hr : ∀ x ∈ l, LenP x) (v : Int) :
  ConW Try.prog 82 [.sl 2 1 (l.map vPr), vi 0, vi l.length, vi v, .fn 70 []] fun r ys => r = .tup [] /\ ys = [.sl 2 1 ((ascFP l).map vPr), vi 0, vi l.length, vi v, .fn 70 []] := by
 refine ConW.intro Try.func82 rfl Try.ntmps82 Try.results82 (by kernel_rfl) (by simp) ?_
 simp only [go_sem]
 refine LoopK.intro (fun _ : Unit => ⟨148, [(0, .sl 2 1 (l.map vPr)), (1, vi 0), (2, vi l.length), (3, vi v), (4, .fn 70 [])], [[.sl 2 1 (l.map vPr), vi 0, vi l.length, vi v, .fn 70 []]]⟩) (fun _ => 0) (fun _ => True) () trivial ?_ ?_
 ·simp only [go_sem]
 rintro ⟨⟩ _
 have hw : IntKind.i64.wrap ((l.length : Int) - 0) = l.length := by rw [wrap_in (by omega) (by omega)]; omega
 have h12 : (l.length : Int) <= 12 := by omega
 simp only [go_sem, hw, h12]
 refine CallU.back (conw_insertP l h0 hl hr) (by simp only [go_sem]) (by simp only [go_sem]) ?_
 rintro r ys ⟨rfl, rfl⟩
 simp only [go_sem]
 have := (asc_permP l).length_eq
 simpa [this] using h0
theorem conw_sortP (l : List (List TmD)) (h0 : 0 < l.length) (hl : l.length <= 12) (hr : ∀ x ∈ l, LenP x) :
  ConW Try.prog 69 [.sl 2 1 (l.map vPr), .fn 70 []] fun r ys => r = .tup [] /\ ys = [.sl 2 1 ((ascFP l).map vPr), .fn 70 []] := by
 refine ConW.intro Try.func69 rfl Try.ntmps69 Try.results69 (by kernel_rfl) (by simp) ?_
 have w2 : IntKind.u64.wrap (l.length : Int) = l.length := by rw [IntKind.wrap_u64]; omega
 have hc := con_lenS l.length hl
 simp only [vq] at hc
 simp only [go_sem, w2]
 refine CallU.free hc (by simp only [go_sem]) (by simp only [go_sem]) ?_
 rintro r bx ⟨v, rfl⟩
 simp only [go_sem]
 refine CallU.back (conw_pdqP l h0 hl hr v) (by simp only [go_sem]) (by simp only [go_sem]) ?_
 rintro r ys ⟨rfl, rfl⟩
 simp only [go_sem]
 have := (asc_permP l).length_eq
 simpa [this] using h0
end Go.AM
