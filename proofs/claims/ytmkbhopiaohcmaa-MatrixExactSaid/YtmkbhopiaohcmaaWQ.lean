/-
  Walks: the reference's elimination.
-/
import Derived.Test.YtmkbhopiaohcmaaWP
import Derived.Test.YtmkbhopiaohcmaaLf
namespace Go.AM
open Go Go.Proofs Go.RowKit

/-- a row on its way: the first k elements are done -/
def rowTo (a b : Int) (x y : List Int) (k : Nat) : List Int := (List.range x.length).map fun u => if u < k then x[u]! * a - b * y[u]! else x[u]! * a
theorem rowTo_len {a b : Int} {x y : List Int} {k : Nat} : (rowTo a b x y k).length = x.length := by simp [rowTo]
theorem rowTo_at {a b : Int} {x y : List Int} {k u : Nat} (h : u < x.length) : (rowTo a b x y k)[u]! = if u < k then x[u]! * a - b * y[u]! else x[u]! * a := by
  rw [getElem!_pos _ u (by rw [rowTo_len]; exact h)]; simp [rowTo]
theorem list_ext {α : Type} [Inhabited α] {l l' : List α} (hl : l.length = l'.length) (h : ∀ i, i < l.length → l[i]! = l'[i]!) : l = l' := by
  apply List.ext_getElem hl
  intro i h1 h2
  have := h i h1
  rw [getElem!_pos l i h1, getElem!_pos l' i h2] at this
  exact this
theorem rowTo_zero {a b : Int} {x y : List Int} (h : ∀ u, u < x.length → w64 (x[u]! * a) = x[u]! * a) : x.map (fun z => w64 (z * a)) = rowTo a b x y 0 := by
  refine list_ext (by rw [rowTo_len, List.length_map]) fun i hi => ?_
  rw [List.length_map] at hi
  rw [rowTo_at hi, if_neg (by omega), ← h i hi]
  exact mapGet (f := fun z => w64 (z * a)) hi
theorem rowTo_set {a b : Int} {x y : List Int} {k : Nat} : (rowTo a b x y k).set k (x[k]! * a - b * y[k]!) = rowTo a b x y (k + 1) := by
  refine list_ext (by rw [List.length_set, rowTo_len, rowTo_len]) fun i hi => ?_
  rw [List.length_set, rowTo_len] at hi
  rw [setTo (by rw [rowTo_len]; exact hi), rowTo_at hi, rowTo_at hi]
  by_cases hki : k = i
  · subst hki; rw [if_pos rfl, if_pos (by omega)]
  · rw [if_neg hki]
    by_cases h2 : i < k
    · rw [if_pos h2, if_pos (by omega)]
    · rw [if_neg h2, if_neg (by omega)]
theorem rowTo_end {a b : Int} {x y : List Int} : rowTo a b x y x.length = combF a b x y := by
  refine list_ext (by simp [rowTo, combF]) fun i hi => ?_
  rw [rowTo_len] at hi
  rw [rowTo_at hi, if_pos hi, comb_at hi]

theorem elimTo_get {R : List (List Int)} {t j k i : Nat} (hi : i < R.length) : (elimTo R t j k)[i]! = if i < k ∧ i ≠ t ∧ R[i]![j]! ≠ 0 then elimRow R t j i else R[i]! := by
  rw [getElem!_pos _ i (by rw [elim_len]; exact hi)]
  simp only [elimTo, List.getElem_map, List.getElem_range]
theorem elimTo_zero {R : List (List Int)} {t j : Nat} : elimTo R t j 0 = R := by
  refine list_ext elim_len fun i hi => ?_
  rw [elim_len] at hi
  rw [elimTo_get hi, if_neg (by omega)]
theorem elimTo_t {R : List (List Int)} {t j k : Nat} (h : t < R.length) : (elimTo R t j k)[t]! = R[t]! := by
  rw [elimTo_get h, if_neg (by simp)]
theorem elimTo_i {R : List (List Int)} {t j i : Nat} (h : i < R.length) : (elimTo R t j i)[i]! = R[i]! := by
  rw [elimTo_get h, if_neg (by omega)]
theorem elimTo_skip {R : List (List Int)} {t j k : Nat} (h : ¬ (k ≠ t ∧ R[k]![j]! ≠ 0)) : elimTo R t j (k + 1) = elimTo R t j k := by
  refine list_ext (by rw [elim_len, elim_len]) fun i hi => ?_
  rw [elim_len] at hi
  rw [elimTo_get hi, elimTo_get hi]
  by_cases hik : i = k
  · subst hik; rw [if_neg (fun h' => h h'.2), if_neg (by omega)]
  · by_cases h2 : i < k
    · simp only [show i < k + 1 by omega, h2, true_and]
    · simp only [show ¬ i < k + 1 by omega, h2, false_and]
theorem elimTo_set {R : List (List Int)} {t j k : Nat} (h1 : k ≠ t) (h2 : R[k]![j]! ≠ 0) : (elimTo R t j k).set k (elimRow R t j k) = elimTo R t j (k + 1) := by
  refine list_ext (by rw [List.length_set, elim_len, elim_len]) fun i hi => ?_
  rw [List.length_set, elim_len] at hi
  rw [setTo (by rw [elim_len]; exact hi), elimTo_get hi, elimTo_get hi]
  by_cases hik : k = i
  · subst hik; rw [if_pos rfl, if_pos ⟨by omega, h1, h2⟩]
  · rw [if_neg hik]
    by_cases h3 : i < k
    · simp only [show i < k + 1 by omega, h3, true_and]
    · simp only [show ¬ i < k + 1 by omega, h3, false_and]

theorem seek_eq {R : List (List Int)} {j t i : Nat} (ht : t ≤ R.length) (hi : t ≤ i) (hil : i ≤ R.length) (h0 : ∀ k, t ≤ k → k < i → R[k]![j]! = 0) (h : i < R.length → R[i]![j]! ≠ 0) : findF R t j = i := by
  obtain ⟨f1, f2, f3, f4⟩ := seek_spec (R := R) (j := j) R.length t (by omega) ht
  unfold findF
  rcases Nat.lt_trichotomy (seekF R j R.length t) i with hlt | he | hgt
  · exact absurd (h0 _ f1 hlt) (f4 (by omega))
  · exact he
  · exact absurd (f3 i hi hgt) (h (by omega))

theorem red_stop {m : List (List Int)} {j : Nat} (h : ¬ (redGo m j).2.length < (redGo m j).1.length) : ∀ k, redGo m (j + k) = redGo m j
  | 0 => rfl
  | k + 1 => by
    have ih := red_stop h k
    show redStep (redGo m (j + k)) (j + k) = _
    rw [ih, redStep, if_neg (fun h' => h h'.1)]

@[go_sem] theorem modify_vr {l : List (List Int)} {i : Nat} {x : List Int} : (l.map (vs 0)).modify i (updElem 0 [.sl 0 1 (x.map vi)]) = (l.set i x).map (vs 0) := by
  apply List.ext_getElem?
  intro j
  rw [List.getElem?_modify]
  by_cases hj : i = j
  · subst hj
    by_cases hi : i < l.length
    · simp [hi, updElem, vs]
    · simp [hi]
  · simp [hj, List.getElem?_set_ne hj]
theorem swap_map {R : List (List Int)} {t s : Nat} : ((R.map (vs 0)).set t (vs 0 R[s]!)).set s (vs 0 R[t]!) = (swapF R t s).map (vs 0) := by
  simp only [swapF, List.map_set]

def vred (p : List (List Int) × List Int) : AV := .tup [vm 2 p.1, vs 3 p.2]

set_option maxRecDepth 100000 in
set_option maxHeartbeats 4000000 in
theorem con_reduced (m : List (List Int)) (hV : Valid m) : Con Try.prog 43 [vm 0 m] [] fun r _ => r = vred (redF m) := by
  refine Con.intro Try.func43 rfl Try.ntmps43 Try.results43 (by kernel_rfl) (by simp) 0 (by simp) ?_
  simp only [go_sem]
  have hml := hV.le
  refine LoopK.intro (fun i : Nat => ⟨189, [(0, vm 0 m), (4, .sl 1920 1 (((m.take i).map primF).map (vs 0))), (5, vi i)], []⟩)
    (fun i => m.length - i) (fun i => i ≤ m.length) 0 (by omega) ?_ ?_
  · simp only [go_sem]
  intro i hi
  by_cases h : i < m.length
  · have hgi := getm h
    have hri := hV.at h
    have hwi : IntKind.i64.wrap (i + 1) = i + 1 := wrap_in (by omega) (by omega)
    have hmi : m[i]? = some m[i]! := by simp [h]
    have hcl := hV.cle
    simp only [go_sem, h, hgi]
    refine CallU.free (con_refPrim m[i]! (by omega) (fun x hx => by have := (hV.row _ (mem_at h)).2 x hx; omega)) (by simp only [go_sem]) (by simp only [go_sem]) ?_
    rintro r bx rfl
    simp only [go_sem, hwi]
    refine ⟨by simp [roomFor]; omega, roundK.intro (i + 1) (by omega) (by omega) ?_⟩
    simp only [go_sem]
    refine leV_sl ?_
    rw [List.take_add_one, hmi, List.map_append]; rfl
  have e0 : m.take i = m := List.take_of_length_le (by omega)
  have hp := hV.pos
  have hg0 := getm hp
  have hcl := hV.cle
  simp only [go_sem, h, e0]
  refine LoopK.intro (fun j : Nat => ⟨189, [(0, vm 0 m), (4, .sl 1920 1 ((redGo m j).1.map (vs 0))), (6, .sl 11712 1 ((redGo m j).2.map vi)), (7, vi (redGo m j).2.length), (8, vi j)], []⟩)
    (fun j => m[0]!.length - j) (fun j => j ≤ m[0]!.length) 0 (by omega) ?_ ?_
  · simp only [go_sem, redGo, List.map_nil, List.length_nil, List.map_map]
  intro j hj
  obtain ⟨s, hI⟩ := red_go hV j hj
  obtain ⟨R, hR⟩ : ∃ R, R = (redGo m j).1 := ⟨_, rfl⟩
  obtain ⟨C, hC⟩ : ∃ C, C = (redGo m j).2 := ⟨_, rfl⟩
  have hRC : redGo m j = (R, C) := by rw [hR, hC]
  rw [← hR, ← hC] at hI
  have hL := hI.len
  have htl := hI.tle
  have hCl : C.length ≤ j := by rw [hI.cols]; exact (lead_ok m j).le
  by_cases h : j < m[0]!.length
  case neg =>
    have hjn : j = m[0]!.length := by omega
    have he : redF m = (R.take C.length, C) := by simp only [redF, ← hjn, hRC]
    simp only [go_sem, hp, hg0, h, hRC]
    exact ⟨by omega, by simp only [vred, he, vm, vs, List.map_take]⟩
  by_cases h2 : C.length < R.length
  case neg =>
    have hst := red_stop (m := m) (j := j) (by rw [hRC]; exact h2) (m[0]!.length - j)
    rw [show j + (m[0]!.length - j) = m[0]!.length by omega, hRC] at hst
    have he : redF m = (R.take C.length, C) := by simp only [redF, hst]
    simp only [go_sem, hp, hg0, h, hRC, h2]
    exact ⟨by omega, by simp only [vred, he, vm, vs, List.map_take]⟩
  have hwj : IntKind.i64.wrap (j + 1) = j + 1 := wrap_in (by omega) (by omega)
  simp only [go_sem, hp, hg0, h, hRC, h2]
  refine LoopK.intro (fun i : Nat => ⟨189, [(0, vm 0 m), (4, .sl 1920 1 (R.map (vs 0))), (6, .sl 11712 1 (C.map vi)), (7, vi C.length), (8, vi j), (9, vi i)], []⟩)
    (fun i => R.length - i) (fun i => C.length ≤ i ∧ i ≤ R.length ∧ ∀ k, C.length ≤ k → k < i → R[k]![j]! = 0) C.length ⟨Nat.le_refl _, by omega, fun k _ _ => by omega⟩ ?_ ?_
  · simp only [go_sem]
  rintro i ⟨hti, hi, h0⟩
  have hstep : redGo m (j + 1) = redStep (R, C) j := by simp only [redGo, hRC]
  by_cases h3 : i < R.length
  case neg =>
    have hf : findF R C.length j = i := seek_eq (by omega) hti hi h0 fun h => absurd h h3
    have hil : i = R.length := by omega
    have hnx : redGo m (j + 1) = (R, C) := by rw [hstep, redStep, if_neg]; rw [hf]; exact fun h' => h3 h'.2
    subst hil
    simp only [go_sem, h3, hwj]
    refine roundK.intro (j + 1) (by omega) (by omega) ?_
    simp only [go_sem, hnx]
  have hgi := getm h3
  have hwi := hI.wide i h3
  have hjw : j < R[i]!.length := by omega
  have hgj := getv hjw
  have hwi' : IntKind.i64.wrap (i + 1) = i + 1 := wrap_in (by omega) (by omega)
  by_cases h4 : R[i]![j]! = 0
  · simp only [go_sem, h3, hgi, hjw, hgj, h4, hwi']
    refine roundK.intro (i + 1) ⟨by omega, by omega, fun k hk hk2 => ?_⟩ (by omega) ?_
    · by_cases hki : k = i
      · rw [hki]; exact h4
      · exact h0 k hk (by omega)
    · simp only [go_sem]
  have hf : findF R C.length j = i := seek_eq (by omega) hti hi h0 fun _ => h4
  have hneb : (R[i]![j]! == 0) = false := beq_eq_false_iff_ne.2 h4
  have hnel : ((i : Int) == (R.length : Int)) = false := beq_eq_false_iff_ne.2 (by omega)
  have hgt := getm h2
  simp only [go_sem, h3, hgi, hjw, hgj, hneb, hnel]
  refine DrawK.front [2, 3] 13 mixed (by kernel_rfl) ?_
  have hR1 : (R.set C.length R[i]!).set i R[C.length]! = swapF R C.length i := rfl
  have hl1 : (swapF R C.length i).length = R.length := by simp [swapF]
  have hsI := red_swap hI hti h3
  have eS : swapL R C.length i = swapF R C.length i := rfl
  rw [eS] at hsI
  have ht1 : C.length < (swapF R C.length i).length := by omega
  have hgt1 := getm ht1
  have hwt1 := hsI.wide _ ht1
  have hjw1 : j < (swapF R C.length i)[C.length]!.length := by omega
  have hgj1 := getv hjw1
  have hfl : findF R C.length j < R.length := by rw [hf]; exact h3
  obtain ⟨s2, hI2, hpos2⟩ := red_piv h hI h2 hfl
  obtain ⟨R1, hR1d⟩ : ∃ R1, R1 = pivT R C.length j := ⟨_, rfl⟩
  have hR1e : R1 = pivF (swapF R C.length i) C.length j := by rw [hR1d, pivT, hf]
  rw [← hR1d] at hI2 hpos2
  have hN : ((swapF R C.length i)[C.length]!.map fun y => w64 (y * -1)) = (swapF R C.length i)[C.length]!.map fun x => x * -1 := by
    refine List.map_congr_left fun x hx => ?_
    obtain ⟨k, hk, rfl⟩ := mem_get hx
    have hh := hsI.high hV (by omega) ht1 (Nat.le_refl _) (k := k) (by omega)
    have hsz := size_le (t := C.length + 1) (by have := hV.small; omega)
    exact wrap_in (by omega) (by omega)
  have hct := con_times (swapF R C.length i)[C.length]! (-1) (by omega)
  rw [hN] at hct
  have hlR1 : R1.length = R.length := by rw [hR1e, pivF]; split <;> simp [swapF]
  by_cases h5 : (swapF R C.length i)[C.length]![j]! < 0
  case' pos =>
    have e5 : R1 = (swapF R C.length i).set C.length ((swapF R C.length i)[C.length]!.map fun x => x * -1) := by rw [hR1e, pivF, if_pos h5]
    obtain ⟨N, hNd⟩ : ∃ N, N = (swapF R C.length i)[C.length]!.map fun x => x * -1 := ⟨_, rfl⟩
    rw [← hNd] at hct e5
    simp only [go_sem, h3, h2, hgi, hgt, List.length_set, hR1, hl1, hgt1, hjw1, hgj1, h5]
    refine CallU.flat hct (by simp only [go_sem]) (by simp only [go_sem]) ?_
    rintro r bx rfl
    simp only [go_sem, hl1, h2, hgt1]
    refine LoopK.intro (fun i : Nat => ⟨189, [(0, vm 0 m), (4, .sl 1920 1 ((elimTo R1 C.length j i).map (vs 0))), (6, .sl 11712 1 (C.map vi)), (7, vi C.length), (8, vi j), (10, vi i)], []⟩)
      (fun i => R1.length - i) (fun i => i ≤ R1.length) 0 (by omega) (by simp only [go_sem, elimTo_zero, e5]) ?_
    clear hct e5 hNd h5 hN
  case' neg =>
    have e5 : R1 = swapF R C.length i := by rw [hR1e, pivF, if_neg h5]
    simp only [go_sem, h3, h2, hgi, hgt, List.length_set, hR1, hl1, hgt1, hjw1, hgj1, h5]
    refine LoopK.intro (fun i : Nat => ⟨189, [(0, vm 0 m), (4, .sl 1920 1 ((elimTo R1 C.length j i).map (vs 0))), (6, .sl 11712 1 (C.map vi)), (7, vi C.length), (8, vi j), (10, vi i)], []⟩)
      (fun i => R1.length - i) (fun i => i ≤ R1.length) 0 (by omega) (by simp only [go_sem, elimTo_zero, e5]) ?_
    clear hct e5 h5 hN
  all_goals
    intro i' hi'
    by_cases h6 : i' < R1.length
    case neg =>
      have hie : i' = R1.length := by omega
      have hwC : IntKind.i64.wrap (C.length + 1) = C.length + 1 := wrap_in (by omega) (by omega)
      have hnx : redGo m (j + 1) = (elimTo R1 C.length j R1.length, C ++ [(j : Int)]) := by
        rw [hstep, redStep, if_pos ⟨h2, hfl⟩, hlR1, hR1d]; rfl
      subst hie
      simp only [go_sem, h6, elim_len, hwC, hwj]
      refine ⟨by simp [roomFor]; omega, roundK.intro (j + 1) (by omega) (by omega) ?_⟩
      simp only [go_sem, hnx, List.length_append, List.length_singleton, List.map_append]
    have hwi2 : IntKind.i64.wrap (i' + 1) = i' + 1 := wrap_in (by omega) (by omega)
    have hgE := getm (l := elimTo R1 C.length j i') (i := i') (by rw [elim_len]; exact h6)
    rw [elimTo_i h6] at hgE
    have hgEt := getm (l := elimTo R1 C.length j i') (i := C.length) (by rw [elim_len]; omega)
    rw [elimTo_t (by omega)] at hgEt
    have hwE := hI2.wide _ h6
    have hwT := hI2.wide C.length (by omega)
    have hjE : j < R1[i']!.length := by omega
    have hjT : j < R1[C.length]!.length := by omega
    have hgjE := getv hjE
    have hgjT := getv hjT
    by_cases h7 : i' = C.length
    · have hb7 : ((i' : Int) != (C.length : Int)) = false := by rw [h7]; simp
      have hsk := elimTo_skip (R := R1) (t := C.length) (j := j) (k := i') (fun h' => h'.1 h7)
      simp only [go_sem, h6, elim_len, hb7, hwi2]
      refine roundK.intro (i' + 1) (by omega) (by omega) ?_
      simp only [go_sem, hsk]
    have hb7 : ((i' : Int) != (C.length : Int)) = true := bne_iff_ne.2 (by omega)
    by_cases h8 : R1[i']![j]! = 0
    · have hsk := elimTo_skip (R := R1) (t := C.length) (j := j) (k := i') (fun h' => h'.2 h8)
      simp only [go_sem, h6, elim_len, hb7, hwi2, hgE, hjE, hgjE, h8]
      refine roundK.intro (i' + 1) (by omega) (by omega) ?_
      simp only [go_sem, hsk]
    have hb8 : (R1[i']![j]! != 0) = true := bne_iff_ne.2 h8
    simp only [go_sem, h6, elim_len, hb7, hgE, hjE, hgjE, hb8]
    refine DrawK.walk 14 mixed (by kernel_rfl) ?_
    have htR1 : C.length < R1.length := by omega
    simp only [go_sem, h6, htR1, elim_len, hgE, hgEt, hjE, hjT, hgjE, hgjT]
    obtain ⟨A, B, hA, hB, hA2, hB2, _, hAE, hBT⟩ := red_fit hV hI2 h htR1 h6 h7
    have hbE := hAE j h
    have hbT := hBT j h
    refine CallU.free (con_gcd R1[C.length]![j]! R1[i']![j]! (by omega) (by omega)) (by simp only [go_sem]) (by simp only [go_sem]) ?_
    rintro r bx rfl
    obtain ⟨g, hg⟩ : ∃ g, g = Nat.gcd R1[C.length]![j]!.natAbs R1[i']![j]!.natAbs := ⟨_, rfl⟩
    have hg0 : 0 < g := by rw [hg]; exact Nat.gcd_pos_of_pos_left _ (by omega)
    have hgne : (g : Int) ≠ 0 := by omega
    rw [← hg]
    simp only [go_sem]
    refine DrawK.walk 20 mixed (by kernel_rfl) ?_
    have hdiv : ∀ x : Int, -12079595520 ≤ x ∧ x ≤ 12079595520 → -12079595520 ≤ x.tdiv g ∧ x.tdiv g ≤ 12079595520 := fun x hx => by
      have : (x.tdiv g).natAbs ≤ x.natAbs := by rw [Int.natAbs_tdiv]; exact Nat.div_le_self _ _
      omega
    have hdE := hdiv R1[i']![j]! (by omega)
    have hdT := hdiv R1[C.length]![j]! (by omega)
    have hwqE : IntKind.i64.wrap (R1[i']![j]!.tdiv g) = R1[i']![j]!.tdiv g := wrap_in (by omega) (by omega)
    have hwqT : IntKind.i64.wrap (R1[C.length]![j]!.tdiv g) = R1[C.length]![j]!.tdiv g := wrap_in (by omega) (by omega)
    simp only [go_sem, h6, htR1, elim_len, hgE, hgEt, hjE, hjT, hgjE, hgjT, hwqE, hwqT]
    refine ⟨hgne, hgne, ?_⟩
    obtain ⟨a, ha⟩ : ∃ a, a = R1[C.length]![j]!.tdiv g := ⟨_, rfl⟩
    obtain ⟨b, hb⟩ : ∃ b, b = R1[i']![j]!.tdiv g := ⟨_, rfl⟩
    rw [← ha, ← hb]
    have hbd := red_row hV hI2 h htR1 h6 h7 g
    rw [← ha, ← hb] at hbd
    have hz := rowTo_zero (a := a) (b := b) (x := R1[i']!) (y := R1[C.length]!) fun u hu => by
      have := hbd u (by omega)
      exact wrap_in (by omega) (by omega)
    have hct := con_times R1[i']! a (by omega)
    rw [hz] at hct
    have hml0 : ∀ k, ((rowTo a b R1[i']! R1[C.length]! k).map vi).all memless = true := fun k => vi_memless
    refine CallU.flat hct (by simp only [go_sem]) (by simp only [go_sem]) ?_
    rintro r bx rfl
    simp only [go_sem]
    refine LoopK.intro (fun k : Nat => ⟨189, [(0, vm 0 m), (4, .sl 1920 1 ((elimTo R1 C.length j i').map (vs 0))), (6, .sl 11712 1 (C.map vi)), (7, vi C.length), (8, vi j), (10, vi i'), (13, vi b), (14, vs 9794 (rowTo a b R1[i']! R1[C.length]! k)), (15, vi k)], []⟩)
      (fun k => R1[i']!.length - k) (fun k => k ≤ R1[i']!.length) 0 (by omega) ?_ ?_
    · simp only [go_sem]
    intro k hk
    by_cases h9 : k < R1[i']!.length
    · have hwk : IntKind.i64.wrap (k + 1) = k + 1 := wrap_in (by omega) (by omega)
      have hgr := getv (l := rowTo a b R1[i']! R1[C.length]! k) (i := k) (by rw [rowTo_len]; exact h9)
      rw [rowTo_at h9, if_neg (by omega)] at hgr
      have hkT : k < R1[C.length]!.length := by omega
      have hgkT := getv hkT
      have hbk := hbd k (by omega)
      have hw1 : IntKind.i64.wrap (b * R1[C.length]![k]!) = b * R1[C.length]![k]! := wrap_in (by omega) (by omega)
      have hw2 : IntKind.i64.wrap (R1[i']![k]! * a - b * R1[C.length]![k]!) = R1[i']![k]! * a - b * R1[C.length]![k]! := wrap_in (by omega) (by omega)
      simp only [go_sem, rowTo_len, h9]
      refine DrawK.walk 15 mixed (by kernel_rfl) ?_
      simp only [go_sem, rowTo_len, h9, elim_len, htR1, hgr, hgEt, hkT, hgkT, hw1, hw2, rowTo_set, hwk]
      refine roundK.intro (k + 1) (by omega) (by omega) ?_
      simp only [go_sem]
    · have hkl : k = R1[i']!.length := by omega
      have hre : rowTo a b R1[i']! R1[C.length]! k = combF a b R1[i']! R1[C.length]! := by rw [hkl, rowTo_end]
      have h9x : ¬ k < (combF a b R1[i']! R1[C.length]!).length := by simp only [combF, List.length_map, List.length_range]; exact h9
      have hbX : ∀ x ∈ combF a b R1[i']! R1[C.length]!, -4611686018427387904 ≤ x ∧ x ≤ 4611686018427387904 := fun x hx => by
        obtain ⟨u, hu, rfl⟩ := mem_get hx
        have hu2 : u < R1[i']!.length := by simpa [combF] using hu
        rw [comb_at hu2]
        have := hbd u (by omega)
        omega
      have hlX : (combF a b R1[i']! R1[C.length]!).length ≤ 1000000 := by simp only [combF, List.length_map, List.length_range]; omega
      have hpr := con_refPrim (combF a b R1[i']! R1[C.length]!) hlX hbX
      have hER : primF (combF a b R1[i']! R1[C.length]!) = elimRow R1 C.length j i' := by rw [ha, hb, hg]; rfl
      rw [hER] at hpr
      have hst := elimTo_set (R := R1) (t := C.length) (j := j) (k := i') h7 h8
      simp only [go_sem, h9x, hre]
      refine CallU.flat hpr (by simp only [go_sem]) (by simp only [go_sem]) ?_
      rintro r bx rfl
      simp only [go_sem, elim_len, h6, hwi2, hst]
      refine roundK.intro (i' + 1) (by omega) (by omega) ?_
      simp only [go_sem]
end Go.AM
