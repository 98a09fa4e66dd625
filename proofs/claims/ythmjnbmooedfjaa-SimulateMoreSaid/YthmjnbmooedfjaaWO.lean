/-
  Walks: after, labels, at any states.
-/
import Derived.Test.YthmjnbmooedfjaaWN
import Derived.Test.YthmjnbmooedfjaaWI
namespace Go.AM
open Go Go.Proofs Go.RowKit

theorem sortI_nil : sortI [] = [] := by simp [sortI]

set_option maxRecDepth 100000 in
theorem con_afterO (s : List Int) (x : Sys) (lab : Int) (hs : ∀ i ∈ s, 0 ≤ i ∧ i < x.length) (hsl : s.length ≤ 128) (hx : ∀ l ∈ x, l.length ≤ 1000000)
    (out : List Int) (hout : out = outOf lab (visA x s s.length)) :
    Con Try.prog 35 [vs 0 s, vy 0 x, vi lab] [] fun r _ => r = vs 2 (uniq (sortI out)) := by
  refine Con.intro Try.func35 rfl Try.ntmps35 Try.results35 (by kernel_rfl) (by simp) 0 (by simp) ?_
  simp only [go_sem]
  refine LoopK.intro (fun k : Nat => ⟨43, [(2, vi lab), (4, .pb 0 0), (7, .sl 2368 1 ((outOf lab (visA x s k)).map vi)), (12, .sl 0 1 (s.map vi)), (13, vi s.length), (14, vi k)], [.sl 0 1 (x.map (vl 0))] :: Bx (visA x s k)⟩)
    (fun k => s.length - k) (fun k => k ≤ s.length) 0 (by omega) ?_ ?_
  · simp only [go_sem, visA, List.take_zero, List.flatMap_nil]
    exact ⟨leV_nil _ _, leB_refl _⟩
  intro k hk
  by_cases h : k < s.length
  · have g1 := getv h
    obtain ⟨i, hi⟩ := Int.eq_ofNat_of_zero_le (hs _ (mem_bang h)).1
    have hi2 : i < x.length := by have := (hs _ (mem_bang h)).2; omega
    have hxl := hx _ (mem_bang hi2)
    have g2 := getvl hi2
    have hV : visA x s (k + 1) = visA x s k ++ x[i]! := by rw [visA_succ h, hi]; rfl
    have hw : IntKind.i64.wrap (k + 1) = k + 1 := wrap_in (by omega) (by omega)
    simp only [go_sem, h, g1, g2, hi, hi2]
    refine LoopK.intro (fun j : Nat => ⟨43, [(2, vi lab), (4, .pb 0 0), (7, .sl 2368 1 ((outOf lab (visA x s k ++ x[i]!.take j)).map vi)), (12, .sl 0 1 (s.map vi)), (13, vi s.length), (14, vi k), (22, .sl 0 2 (x[i]!.map va)), (23, vi x[i]!.length), (24, vi j)], [.sl 0 1 (x.map (vl 0))] :: Bx (visA x s k ++ x[i]!.take j)⟩)
      (fun j => x[i]!.length - j) (fun j => j ≤ x[i]!.length) 0 (by omega) ?_ ?_
    · simp only [go_sem, List.take_zero, List.append_nil]
    intro j hj
    by_cases hjl : j < x[i]!.length
    · have g3 := getva hjl
      have hwj : IntKind.i64.wrap (j + 1) = j + 1 := wrap_in (by omega) (by omega)
      have hBl := Bx_len (visA x s k ++ x[i]!.take j)
      have hBn := fun z => Bx_new (L := visA x s k ++ x[i]!.take j) rfl (x := z)
      have hBs := fun z => Bx_snoc (L := visA x s k ++ x[i]!.take j) rfl (x := z) (p := x[i]![j]!)
      have hBx := Bx_last (L := visA x s k ++ x[i]!.take j) rfl (p := x[i]![j]!)
      have hT : visA x s k ++ x[i]!.take (j + 1) = visA x s k ++ x[i]!.take j ++ [x[i]![j]!] := by rw [take_snoc hjl, List.append_assoc]
      by_cases hl : x[i]![j]!.1 = lab
      · have hl' : (x[i]![j]!.1 == lab) = true := by simpa using hl
        simp only [go_sem, hjl, g3, hBl, hBn, hBs, hBx, hl', hwj]
        have b1 := outOf_le lab (visA x s k ++ x[i]!.take j)
        have b2 := visA_le hx k (s := s)
        have b3 : k * 1000000 ≤ 128 * 1000000 := Nat.mul_le_mul_right _ (by omega)
        rw [List.length_append, List.length_take] at b1
        refine ⟨by simp only [roomFor]; omega, roundK.intro (j + 1) (by show j + 1 ≤ x[i]!.length; omega) (by show x[i]!.length - (j + 1) < x[i]!.length - j; omega) ?_⟩
        simp only [go_sem, hT, outOf_snoc, hl', List.map_append, List.map_cons, List.map_nil]
      · have hl' : (x[i]![j]!.1 == lab) = false := by simpa using hl
        simp only [go_sem, hjl, g3, hBl, hBn, hBs, hBx, hl', hwj]
        refine roundK.intro (j + 1) (by show j + 1 ≤ x[i]!.length; omega) (by show x[i]!.length - (j + 1) < x[i]!.length - j; omega) ?_
        simp only [go_sem, hT, outOf_snoc, hl', Bool.false_eq_true, if_false, List.append_nil]
    · have hje : j = x[i]!.length := by omega
      subst hje
      simp only [go_sem, hjl, List.take_length, hw]
      refine roundK.intro (k + 1) (by show k + 1 ≤ s.length; omega) (by show s.length - (k + 1) < s.length - k; omega) ?_
      simp only [go_sem, hV]
  · have hke : k = s.length := by omega
    subst hke
    have hb1 : out.length ≤ 128 * 1000000 := by
      have b2 := visA_le hx s.length (s := s)
      have b3 : s.length * 1000000 ≤ 128 * 1000000 := Nat.mul_le_mul_right _ hsl
      rw [hout]; have := outOf_le lab (visA x s s.length); omega
    simp only [go_sem, h, ← hout]
    by_cases h0 : out = []
    · subst h0
      refine CallU.flat (con_sort54 [] (by decide) (asc_short (by decide)).1) (by simp only [go_sem, List.map_nil]) (by simp only [go_sem, List.map_nil]) ?_
      rintro r bx rfl
      simp only [go_sem]
      refine CallU.lend (conc_compact55 [] (by decide)) (by simp only [go_sem, List.map_nil]) (by simp only [go_sem, List.map_nil]) ?_
      rintro r rfl
      simp only [go_sem, sortI_nil]
    have hpos : 0 < out.length := List.length_pos_iff.2 h0
    refine CallU.back (conw_sort54 out hpos (by omega)) (by simp only [go_sem]) (by simp only [go_sem]) ?_
    rintro r ys ⟨rfl, rfl⟩
    simp only [go_sem, hpos]
    have hsl : (sortI out).length = out.length := by simp [sortI]
    simp only [go_sem, hsl]
    refine CallU.lend (conc_compact55 (sortI out) (by omega)) (by simp only [go_sem]) (by simp only [go_sem]) ?_
    rintro r rfl
    simp only [go_sem]
    trace_state
set_option maxRecDepth 100000 in
theorem con_labelsO (s : List Int) (x : Sys) (hs : ∀ i ∈ s, 0 ≤ i ∧ i < x.length) (hsl : s.length ≤ 128) (hx : ∀ l ∈ x, l.length ≤ 1000000)
    (out : List Int) (hout : out = (visA x s s.length).map (·.1)) :
    Con Try.prog 33 [vs 0 s, vy 0 x] [] fun r _ => r = vs 2 (uniq (sortI out)) := by
  refine Con.intro Try.func33 rfl Try.ntmps33 Try.results33 (by kernel_rfl) (by simp) 0 (by simp) ?_
  simp only [go_sem]
  refine LoopK.intro (fun k : Nat => ⟨37, [(3, .pb 0 0), (5, .sl 1984 1 (((visA x s k).map (·.1)).map vi)), (10, .sl 0 1 (s.map vi)), (11, vi s.length), (12, vi k)], [.sl 0 1 (x.map (vl 0))] :: Bx (visA x s k)⟩)
    (fun k => s.length - k) (fun k => k ≤ s.length) 0 (by omega) ?_ ?_
  · simp only [go_sem, visA, List.take_zero, List.flatMap_nil, List.map_nil]
    first | trivial | exact leB_refl _
  intro k hk
  by_cases h : k < s.length
  · have g1 := getv h
    obtain ⟨i, hi⟩ := Int.eq_ofNat_of_zero_le (hs _ (mem_bang h)).1
    have hi2 : i < x.length := by have := (hs _ (mem_bang h)).2; omega
    have hxl := hx _ (mem_bang hi2)
    have g2 := getvl hi2
    have hV : visA x s (k + 1) = visA x s k ++ x[i]! := by rw [visA_succ h, hi]; rfl
    have hw : IntKind.i64.wrap (k + 1) = k + 1 := wrap_in (by omega) (by omega)
    simp only [go_sem, h, g1, g2, hi, hi2]
    refine LoopK.intro (fun j : Nat => ⟨37, [(3, .pb 0 0), (5, .sl 1984 1 (((visA x s k ++ x[i]!.take j).map (·.1)).map vi)), (10, .sl 0 1 (s.map vi)), (11, vi s.length), (12, vi k), (20, .sl 0 2 (x[i]!.map va)), (21, vi x[i]!.length), (22, vi j)], [.sl 0 1 (x.map (vl 0))] :: Bx (visA x s k ++ x[i]!.take j)⟩)
      (fun j => x[i]!.length - j) (fun j => j ≤ x[i]!.length) 0 (by omega) ?_ ?_
    · simp only [go_sem, List.take_zero, List.append_nil]
    intro j hj
    by_cases hjl : j < x[i]!.length
    · have g3 := getva hjl
      have hwj : IntKind.i64.wrap (j + 1) = j + 1 := wrap_in (by omega) (by omega)
      have hBl := Bx_len (visA x s k ++ x[i]!.take j)
      have hBn := fun z => Bx_new (L := visA x s k ++ x[i]!.take j) rfl (x := z)
      have hBs := fun z => Bx_snoc (L := visA x s k ++ x[i]!.take j) rfl (x := z) (p := x[i]![j]!)
      have hBx := Bx_last (L := visA x s k ++ x[i]!.take j) rfl (p := x[i]![j]!)
      have hT : visA x s k ++ x[i]!.take (j + 1) = visA x s k ++ x[i]!.take j ++ [x[i]![j]!] := by rw [take_snoc hjl, List.append_assoc]
      simp only [go_sem, hjl, g3, hBl, hBn, hBs, hBx, hwj]
      have b1 : (visA x s k ++ x[i]!.take j).length = (visA x s k ++ x[i]!.take j).length := rfl
      have b2 := visA_le hx k (s := s)
      have b3 : k * 1000000 ≤ 128 * 1000000 := Nat.mul_le_mul_right _ (by omega)
      conv at b1 => rhs; rw [List.length_append, List.length_take]
      refine ⟨by simp only [roomFor, List.length_map]; omega, roundK.intro (j + 1) (by show j + 1 ≤ x[i]!.length; omega) (by show x[i]!.length - (j + 1) < x[i]!.length - j; omega) ?_⟩
      simp only [go_sem, hT, List.map_append, List.map_cons, List.map_nil]
    · have hje : j = x[i]!.length := by omega
      subst hje
      simp only [go_sem, hjl, List.take_length, hw]
      refine roundK.intro (k + 1) (by show k + 1 ≤ s.length; omega) (by show s.length - (k + 1) < s.length - k; omega) ?_
      simp only [go_sem, hV]
  · have hke : k = s.length := by omega
    subst hke
    have hb1 : out.length ≤ 128 * 1000000 := by
      have b2 := visA_le hx s.length (s := s)
      have b3 : s.length * 1000000 ≤ 128 * 1000000 := Nat.mul_le_mul_right _ hsl
      have b4 : out.length = (visA x s s.length).length := by rw [hout]; exact List.length_map _
      omega
    simp only [go_sem, h, ← hout]
    by_cases h0 : out = []
    · subst h0
      refine CallU.flat (con_sort52 [] (by decide) (asc_short (by decide)).1) (by simp only [go_sem, List.map_nil]) (by simp only [go_sem, List.map_nil]) ?_
      rintro r bx rfl
      simp only [go_sem]
      refine CallU.lend (conc_compact53 [] (by decide)) (by simp only [go_sem, List.map_nil]) (by simp only [go_sem, List.map_nil]) ?_
      rintro r rfl
      simp only [go_sem, sortI_nil]
    have hpos : 0 < out.length := List.length_pos_iff.2 h0
    refine CallU.back (conw_sort52 out hpos (by omega)) (by simp only [go_sem]) (by simp only [go_sem]) ?_
    rintro r ys ⟨rfl, rfl⟩
    simp only [go_sem, hpos]
    have hsl : (sortI out).length = out.length := by simp [sortI]
    simp only [go_sem, hsl]
    refine CallU.lend (conc_compact53 (sortI out) (by omega)) (by simp only [go_sem]) (by simp only [go_sem]) ?_
    rintro r rfl
    simp only [go_sem]
    trace_state
end Go.AM
