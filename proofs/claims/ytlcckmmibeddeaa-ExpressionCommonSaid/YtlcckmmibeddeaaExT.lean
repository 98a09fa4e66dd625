/-
 Walks: maximal products, at most twelve that stay, in order (chapter 9); printed by gen_ext.py.
-/
import Derived.Test.YtlcckmmibeddeaaExS
import Derived.Test.YtlcckmmibeddeaaX1
namespace Go.AM
open Go Go.Proofs Go.RowKit
set_option maxRecDepth 100000
set_option maxHeartbeats 8000000
theorem con_xmaximalS (l : List (List TmD)) (hl : ∀ p ∈ l, OkP p /\ LenP p) (hlen : l.length <= 1000000) (h1 : (maxL l).length <= 12) : Con Try.prog 34 [.sl 0 1 (l.map vPr)] [] fun r _ => r = .sl 0 1 ((ascFP (maxL l)).map vPr) := by
  refine Con.frozX ?_
  refine Con.intro Try.func34 rfl Try.ntmps34 Try.results34 (by kernel_rfl) (by simp) 0 (by simp) ?_
  simp only [go_sem]
  refine LoopK.intro (fun i : Nat => ⟨27, [(3, .sl 256 1 ((maxF l i).map vPr)), (6, .sl 0 1 (l.map vPr)), (7, vi l.length), (8, vi i)], Rk 1 i⟩)
    (fun i => l.length - i) (fun i => i <= l.length) 0 (Nat.zero_le _) ?_ ?_
  · have e : maxF l 0 = [] := rfl
    simp only [go_sem, e, List.map_nil, Rk, List.replicate]
    all_goals exact leB_self _
  rintro i hi
  have hB := Rk_len 1 i
  have n0 := fun L : List (List AV) => app_at0 (L := L) hB
  have s0 := fun (L : List (List AV)) z => app_set0 (L := L) (z := z) hB
  by_cases h : i < l.length
  case neg =>
    have e : maxF l i = maxL l := by unfold maxF; rw [List.take_of_length_le (by omega)]
    have hm := maxF_mem hl l.length (Nat.le_refl _)
    have e2 : maxF l l.length = maxL l := by unfold maxF; rw [List.take_length]
    rw [e2] at hm
    rw [e]
    by_cases h0 : maxL l = []
    · have e3 : ascFP ([] : List (List TmD)) = [] := List.Perm.eq_nil (asc_permP [])
      have hs := con_xsort1 [] (by simp)
      simp only [List.map_nil] at hs
      rw [h0, e3]
      simp only [go_sem, h, List.map_nil]
      refine CallU.flat hs (by simp only [go_sem]) (by simp only [go_sem]) ?_
      rintro r bx rfl
      simp only [go_sem]
      exact leV_refl _
    · have hpos := List.length_pos_iff.2 h0
      simp only [go_sem, h]
      refine CallU.back (conw_sortP (maxL l) hpos h1 fun x hx => (hm x hx).2) (by simp only [go_sem]) (by simp only [go_sem]) ?_
      rintro r ys ⟨rfl, rfl⟩
      simp only [go_sem]
      exact ⟨decide_eq_true hpos, leV_refl _⟩
  obtain ⟨hok, hlp⟩ := hl _ (mem_bangI h)
  have hg := getPr h
  have hw : IntKind.i64.wrap (i + 1) = i + 1 := wrap_in (by omega) (by omega)
  have hn := con_xnormalF l[i]! hok hlp
  have hm := maxF_mem hl i hi
  have hml := maxF_len l i hi
  have hc1 := con_containsPr (maxF l i) 66 [.fp [vPr (normP l[i]!)] 0] (fun q => leqP (normP l[i]!) q) (by simp only [go_sem]) (fun q hq => con_xmax1 q (normP l[i]!) (hm q hq).1 (normP_ok hok) (hm q hq).2 (lenP_norm hlp)) (by omega)
  have hd := con_delFuncPr (maxF l i) 68 (normP l[i]!) (fun q => leqP q (normP l[i]!)) (fun q hq => con_xmax2 q (normP l[i]!) (hm q hq).1 (normP_ok hok) (hm q hq).2 (lenP_norm hlp)) (by omega)
  have hsucc := maxF_succ h
  unfold insM at hsucc
  simp only [vPr] at hn
  simp only [go_sem] at hc1
  simp only [go_sem, h, hg, hB, n0, s0, List.length_map]
  refine CallU.free hn (by simp only [go_sem]) (by simp only [go_sem]) ?_
  rintro r bx rfl
  simp only [go_sem, n0, s0]
  refine CallU.look hc1 (by simp only [go_sem]) (by simp only [go_sem, n0]) ?_
  rintro r bx rfl
  cases hcv : (maxF l i).any fun q => leqP (normP l[i]!) q with
  | true =>
    rw [if_pos hcv] at hsucc
    simp only [go_sem, hw]
    refine roundK.intro (i + 1) (by omega) (by omega) ?_
    simp only [go_sem, hsucc, Rk_succ]
    all_goals exact leB_RkA (x := [[_]]) (y := [List.replicate 1 .any]) ⟨⟨leV_any _, trivial⟩, trivial⟩
  | false =>
    rw [if_neg (by rw [hcv]; simp)] at hsucc
    have hfl : ((maxF l i).filter fun q => !leqP q (normP l[i]!)).length <= i := Nat.le_trans (List.length_filter_le _ _) hml
    generalize hF : (maxF l i).filter (fun q => !leqP q (normP l[i]!)) = F at hd hsucc hfl
    have hks : mapB (killS [256]) (Rk 1 i) = Rk 1 i := mapB_Rk rfl 1 i
    have hmv : mapB (mvLeaf 1282 256) (Rk 1 i) = Rk 1 i := mapB_Rk rfl 1 i
    have hroom : roomFor (F.length + 1) 24 := by simp only [roomFor]; omega
    simp only [go_sem]
    refine DrawK.meet ⟨27, [(3, .sl 1282 1 (F.map vPr ++ [vPr (normP l[i]!)])), (6, .sl 0 1 (l.map vPr)), (7, vi l.length), (8, vi i)], Rk 1 i ++ [[vPr (normP l[i]!)]]⟩ ?_ ?_
    · refine DrawK.tree maxTree mixed (by kernel_rfl) ?_
      unfold maxTree
      simp only [go_sem]
      repeat' (first
        | exact trivial
        | with_reducible apply andK_mk
        | (refine CallU.close [i] hd (bx0 := [[vPr (normP l[i]!)]]) (by simp only [go_sem]) (by simp only [go_sem]; simp) (by simp only [go_sem, n0]) [256] (by simp only [go_sem]) (by simp only [go_sem]) (by simp only [go_sem]) (by simp only [go_sem]) ?_
           rintro r b ⟨rfl, rfl⟩
           simp only [go_sem, n0, s0, hks, hroom, List.length_map])
        | simp only [go_sem, n0])
    simp only [go_sem, hw]
    refine roundK.mv 1282 256 (by omega) (by omega) (by omega) (i + 1) (by omega) (by omega) ?_
    simp only [go_sem, hsucc, hmv, Rk_succ, List.map_append, List.map_cons, List.map_nil]
    exact leV_refl _
end Go.AM
