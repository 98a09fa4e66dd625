/-
  Walks: the reference's Apply, Multiply, Transpose.
-/
import Derived.Test.YtmkbhopiaohcmaaWO
namespace Go.AM
open Go Go.Proofs Go.RowKit

set_option maxRecDepth 100000 in
set_option maxHeartbeats 1000000 in
theorem con_refApply (m : List (List Int)) (v : List Int) (hm : Fits m) (hv : v.length ≤ 140737488355328) : Con Try.prog 27 [vm 0 m, vs 0 v] [] fun r _ => r = vpair (applyF m v) := by
  refine Con.intro Try.func27 rfl Try.ntmps27 Try.results27 (by kernel_rfl) (by simp) 0 (by simp) ?_
  simp only [go_sem]
  refine CallU.free (con_refCheck m hm) (by simp only [go_sem]) (by simp only [go_sem]) ?_
  rintro r bx rfl
  by_cases h1 : checkF m = 0
  case neg =>
    have hb : (checkF m != 0) = true := bne_iff_ne.2 h1
    simp only [go_sem, hb, vpair, applyF, h1]
  have hV := check_ok h1
  have hp := hV.pos
  have hg := getm hp
  by_cases h2 : v.length = m[0]!.length
  case neg => simp only [go_sem, h1, h2, hp, hg, vpair, applyF]
  simp only [go_sem, h1, h2, hp, hg]
  refine LoopK.intro (fun i : Nat => ⟨73, [(0, vm 0 m), (1, vs 0 v), (7, vi i)], []⟩)
    (fun i => v.length - i) (fun i => i ≤ v.length ∧ ∀ j, j < i → lawFar v[j]! = false) 0 ⟨by omega, fun j hj => by omega⟩ ?_ ?_
  · simp only [go_sem]
  rintro i ⟨hi, hb⟩
  by_cases h : i < v.length
  · have hgi := getv h
    have h' : i < m[0]!.length := by omega
    have hw : IntKind.i64.wrap (i + 1) = i + 1 := wrap_in (by omega) (by omega)
    by_cases hlo : v[i]! < -1048576
    · have := any_stop h (p := lawFar) (by simp only [lawFar, Bool.or_eq_true, decide_eq_true_eq]; omega)
      simp only [go_sem, h, h', hgi, hlo, vpair, applyF, h1, h2, this]
    · by_cases hhi : 1048576 < v[i]!
      · have := any_stop h (p := lawFar) (by simp only [lawFar, Bool.or_eq_true, decide_eq_true_eq]; omega)
        simp only [go_sem, h, h', hgi, hlo, hhi, vpair, applyF, h1, h2, this]
      · simp only [go_sem, h, hgi, hlo, hhi, hw]
        refine roundK.intro (i + 1) ⟨by omega, fun j hj => ?_⟩ (by omega) ?_
        · by_cases hji : j = i
          · rw [hji]; simp only [lawFar, hlo, hhi, decide_false, Bool.or_false]
          · exact hb j (by omega)
        · simp only [go_sem]
  have hfar := any_none (p := lawFar) (fun j hj => hb j (by omega))
  simp only [go_sem, h]
  refine LoopK.intro (fun i : Nat => ⟨73, [(0, vm 0 m), (1, vs 0 v), (8, .sl 4608 1 ((m.take i).map fun row => vi (dotF row v))), (9, vi i)], []⟩)
    (fun i => m.length - i) (fun i => i ≤ m.length) 0 (by omega) ?_ ?_
  · simp only [go_sem]
  intro i hi
  have hle := hV.le
  by_cases h : i < m.length
  · have hgi := getm h
    have hri := hV.at h
    have hw : IntKind.i64.wrap (i + 1) = i + 1 := wrap_in (by omega) (by omega)
    have hmi : m[i]? = some m[i]! := by simp [h]
    simp only [go_sem, h]
    refine LoopK.intro (fun k : Nat => ⟨73, [(0, vm 0 m), (1, vs 0 v), (8, .sl 4608 1 ((m.take i).map fun row => vi (dotF row v))), (9, vi i), (10, vi (dotN m[i]! v k)), (11, vi k)], []⟩)
      (fun k => v.length - k) (fun k => k ≤ v.length) 0 (by omega) ?_ ?_
    · simp only [go_sem, dotN]
    intro k hk
    by_cases hkc : k < v.length
    · have hgv := getv hkc
      have hkr : k < m[i]!.length := by omega
      have hgr := getv hkr
      have hwk : IntKind.i64.wrap (k + 1) = k + 1 := wrap_in (by omega) (by omega)
      have hd : IntKind.i64.wrap (dotN m[i]! v k + IntKind.i64.wrap (m[i]![k]! * v[k]!)) = dotN m[i]! v (k + 1) := rfl
      simp only [go_sem, hkc]
      refine DrawK.walk 15 mixed (by kernel_rfl) ?_
      simp only [go_sem, h, hkc, hkr, hgi, hgr, hgv, hwk, hd]
      refine roundK.intro (k + 1) (by omega) (by omega) ?_
      simp only [go_sem]
    · have hkl : k = m[i]!.length := by omega
      have hdf : dotN m[i]! v k = dotF m[i]! v := by rw [hkl]; rfl
      simp only [go_sem, hkc, hw, hdf]
      refine ⟨by simp [roomFor]; omega, roundK.intro (i + 1) (by omega) (by omega) ?_⟩
      simp only [go_sem]
      refine leV_sl ?_
      rw [List.take_add_one, hmi, List.map_append]; rfl
  · have e : m.take i = m := List.take_of_length_le (by omega)
    simp only [go_sem, h, e, vpair, applyF, h1, h2, hfar]
    rfl

set_option maxRecDepth 100000 in
set_option maxHeartbeats 1000000 in
theorem con_refMultiply (a b : List (List Int)) (ha : Fits a) (hb : Fits b) : Con Try.prog 24 [vm 0 a, vm 0 b] [] fun r _ => r = vpairm (multR a b) := by
  refine Con.intro Try.func24 rfl Try.ntmps24 Try.results24 (by kernel_rfl) (by simp) 0 (by simp) ?_
  simp only [go_sem]
  refine CallU.free (con_refCheck a ha) (by simp only [go_sem]) (by simp only [go_sem]) ?_
  rintro r bx rfl
  by_cases h1 : checkF a ≠ 0
  · have hx : (checkF a != 0) = true := bne_iff_ne.2 h1
    simp only [go_sem, hx, vpairm, multR, h1]
  have h1' : checkF a = 0 := by omega
  have hVa := check_ok h1'
  simp only [go_sem, h1']
  refine CallU.free (con_refCheck b hb) (by simp only [go_sem]) (by simp only [go_sem]) ?_
  rintro r bx rfl
  by_cases h2 : checkF b ≠ 0
  · have hx : (checkF b != 0) = true := bne_iff_ne.2 h2
    simp only [go_sem, hx, vpairm, multR, h1', h2]
  have h2' : checkF b = 0 := by omega
  have hVb := check_ok h2'
  have hpa := hVa.pos
  have hpb := hVb.pos
  have hga := getm hpa
  have hgb := getm hpb
  have hal := hVa.le
  have hbl := hVb.le
  have hbc := hVb.cle
  simp only [go_sem, h2', hpa, hga]
  by_cases h3 : b.length = a[0]!.length
  case neg => simp only [go_sem, h3, vpairm, multR, h1', h2']
  obtain ⟨F, hF⟩ : ∃ F, F = multF a b := ⟨_, rfl⟩
  have hFl : F.length = a.length := by rw [hF]; simp [multF]
  have hFr : ∀ i, i < a.length → F[i]! = (List.range b[0]!.length).map fun j => dotF a[i]! (b.map fun r => r[j]!) := fun i hi => by rw [hF]; simp [multF, hi]
  simp only [go_sem, h3]
  refine LoopK.intro (fun i : Nat => ⟨77, [(0, vm 0 a), (1, vm 0 b), (8, .sl 4864 1 ((F.take i).map (vs 0))), (9, vi i)], []⟩)
    (fun i => a.length - i) (fun i => i ≤ a.length) 0 (by omega) ?_ ?_
  · simp only [go_sem]
  intro i hi
  by_cases h : i < a.length
  case neg =>
    have e : F.take i = F := List.take_of_length_le (by omega)
    simp only [go_sem, h, e, vpairm, multR, h1', h2', h3, ← hF]
  have hgi := getm h
  have hri := hVa.at h
  have hwi : IntKind.i64.wrap (i + 1) = i + 1 := wrap_in (by omega) (by omega)
  simp only [go_sem, h]
  refine LoopK.intro (fun k : Nat => ⟨77, [(0, vm 0 a), (1, vm 0 b), (8, .sl 4864 1 ((F.take i).map (vs 0))), (9, vi i), (10, .sl 4608 1 ((F[i]!.take k).map vi)), (11, vi k)], []⟩)
    (fun k => b[0]!.length - k) (fun k => k ≤ b[0]!.length) 0 (by omega) ?_ ?_
  · simp only [go_sem]
  intro k hk
  have hFil : F[i]!.length = b[0]!.length := by rw [hFr i h]; simp
  by_cases hk2 : k < b[0]!.length
  · have hwk : IntKind.i64.wrap (k + 1) = k + 1 := wrap_in (by omega) (by omega)
    have htk : F[i]!.take (k + 1) = F[i]!.take k ++ [dotF a[i]! (b.map fun r => r[k]!)] := by
      rw [List.take_add_one, hFr i h, List.getElem?_map, List.getElem?_range hk2]; rfl
    simp only [go_sem, hpb, hgb, hk2]
    refine LoopK.intro (fun j : Nat => ⟨77, [(0, vm 0 a), (1, vm 0 b), (8, .sl 4864 1 ((F.take i).map (vs 0))), (9, vi i), (10, .sl 4608 1 ((F[i]!.take k).map vi)), (11, vi k), (12, vi (dotN a[i]! (b.map fun r => r[k]!) j)), (13, vi j)], []⟩)
      (fun j => b.length - j) (fun j => j ≤ b.length) 0 (by omega) ?_ ?_
    · simp only [go_sem, dotN]
    intro j hj
    by_cases hj2 : j < b.length
    · have hgj := getm hj2
      have hrj := hVb.at hj2
      have hja : j < a[i]!.length := by omega
      have hgaj := getv hja
      have hkj : k < b[j]!.length := by omega
      have hgbj := getv hkj
      have hwj : IntKind.i64.wrap (j + 1) = j + 1 := wrap_in (by omega) (by omega)
      have hcol : (b.map fun r => r[k]!)[j]! = b[j]![k]! := by simp [hj2]
      have hd : IntKind.i64.wrap (dotN a[i]! (b.map fun r => r[k]!) j + IntKind.i64.wrap (a[i]![j]! * b[j]![k]!)) = dotN a[i]! (b.map fun r => r[k]!) (j + 1) := by rw [← hcol]; rfl
      simp only [go_sem, hj2]
      refine DrawK.walk 18 mixed (by kernel_rfl) ?_
      simp only [go_sem, h, hj2, hja, hkj, hgi, hgj, hgaj, hgbj, hwj, hd]
      refine roundK.intro (j + 1) (by omega) (by omega) ?_
      simp only [go_sem]
    · have hjl : j = a[i]!.length := by omega
      have hdf : dotN a[i]! (b.map fun r => r[k]!) j = dotF a[i]! (b.map fun r => r[k]!) := by rw [hjl]; rfl
      simp only [go_sem, hj2, hwk, hdf]
      refine ⟨by simp [roomFor]; omega, roundK.intro (k + 1) (by omega) (by omega) ?_⟩
      simp only [go_sem]
      refine leV_sl ?_
      rw [htk, List.map_append]; rfl
  · have e : F[i]!.take k = F[i]! := List.take_of_length_le (by omega)
    have hFi : F[i]? = some F[i]! := by rw [getElem!_pos F i (by omega)]; simp [show i < F.length by omega]
    simp only [go_sem, hpb, hgb, hk2, hwi, e]
    refine ⟨by simp [roomFor]; omega, roundK.intro (i + 1) (by omega) (by omega) ?_⟩
    simp only [go_sem]
    refine leV_sl ?_
    rw [List.take_add_one, hFi, List.map_append]; rfl

/-- the transposed of the first i rows; the first k columns have one row more -/
def partT (m : List (List Int)) (c i k : Nat) : List (List Int) := (List.range c).map fun j => (m.take (if j < k then i + 1 else i)).map fun r => r[j]!
theorem partT_len {m : List (List Int)} {c i k : Nat} : (partT m c i k).length = c := by simp [partT]
theorem partT_get {m : List (List Int)} {c i k j : Nat} (h : j < c) : (partT m c i k)[j]? = some ((m.take (if j < k then i + 1 else i)).map fun r => r[j]!) := by
  simp only [partT, List.getElem?_map, List.getElem?_range h, Option.map_some]
theorem partT_at {m : List (List Int)} {c i k : Nat} (h : k < c) : (partT m c i k)[k]! = (m.take i).map fun r => r[k]! := by
  have := partT_get (m := m) (i := i) (k := k) h
  rw [if_neg (by omega)] at this
  rw [List.getElem!_eq_getElem?_getD, this]; rfl
theorem partT_set {m : List (List Int)} {c i k : Nat} : (partT m c i k).set k ((m.take (i + 1)).map fun r => r[k]!) = partT m c i (k + 1) := by
  apply List.ext_getElem?
  intro j
  rw [List.getElem?_set]
  by_cases hj : j < c
  · rw [partT_get hj, partT_get hj, partT_len]
    by_cases hkj : k = j
    · subst hkj; simp [hj]
    · rw [if_neg hkj]
      by_cases h : j < k
      · rw [if_pos h, if_pos (by omega)]
      · rw [if_neg h, if_neg (by omega)]
  · rw [List.getElem?_eq_none (by rw [partT_len]; omega), List.getElem?_eq_none (by rw [partT_len]; omega)]
    split
    · rw [if_neg (by rw [partT_len]; omega)]
    · rfl
theorem partT_next {m : List (List Int)} {c i : Nat} : partT m c i c = partT m c (i + 1) 0 := by
  apply List.ext_getElem?
  intro j
  by_cases hj : j < c
  · rw [partT_get hj, partT_get hj, if_pos hj, if_neg (by omega)]
  · rw [List.getElem?_eq_none (by rw [partT_len]; omega), List.getElem?_eq_none (by rw [partT_len]; omega)]
theorem partT_zero {m : List (List Int)} {c : Nat} : partT m c 0 0 = List.replicate c [] := by
  apply List.ext_getElem?
  intro j
  by_cases hj : j < c
  · rw [partT_get hj, if_neg (by omega), List.getElem?_replicate_of_lt hj]; simp
  · rw [List.getElem?_eq_none (by rw [partT_len]; omega), List.getElem?_eq_none (by simp; omega)]
theorem partT_end {m : List (List Int)} : partT m m[0]!.length m.length 0 = transF m := by
  simp only [partT, transF]
  refine List.map_congr_left fun j _ => ?_
  rw [if_neg (by omega), List.take_length]

set_option maxRecDepth 100000 in
set_option maxHeartbeats 2000000 in
theorem con_refTranspose (m : List (List Int)) (hm : Fits m) : Con Try.prog 21 [vm 0 m] [] fun r _ => r = vpairt (transR m) := by
  refine Con.intro Try.func21 rfl Try.ntmps21 Try.results21 (by kernel_rfl) (by simp) 0 (by simp) ?_
  simp only [go_sem]
  refine CallU.free (con_refCheck m hm) (by simp only [go_sem]) (by simp only [go_sem]) ?_
  rintro r bx rfl
  by_cases h1 : checkF m ≠ 0
  · have hx : (checkF m != 0) = true := bne_iff_ne.2 h1
    simp only [go_sem, hx, vpairt, transR, h1]
  have h1' : checkF m = 0 := by omega
  have hV := check_ok h1'
  have hp := hV.pos
  have hg := getm hp
  have hl := hV.le
  have hcl := hV.cle
  simp only [go_sem, h1', hp, hg]
  obtain ⟨c, hc⟩ : ∃ c, c = m[0]!.length := ⟨_, rfl⟩
  rw [← hc]
  refine ⟨by omega, by omega, by omega, ?_⟩
  refine LoopK.intro (fun i : Nat => ⟨50, [(0, vm 0 m), (5, vt 1152 (partT m c i 0)), (6, vi i)], []⟩)
    (fun i => m.length - i) (fun i => i ≤ m.length) 0 (by omega) ?_ ?_
  · simp only [go_sem, partT_zero]
    exact leV_slso (by omega) rowsLe_nils
  intro i hi
  by_cases h : i < m.length
  case neg =>
    have hil : i = m.length := by omega
    subst hil
    simp only [go_sem, h, vpairt, transR, h1']
    rw [hc, partT_end]
  have hgi := getm h
  have hri := hV.at h
  rw [← hc] at hri
  have hwi : IntKind.i64.wrap (i + 1) = i + 1 := wrap_in (by omega) (by omega)
  simp only [go_sem, h]
  refine LoopK.intro (fun k : Nat => ⟨50, [(0, vm 0 m), (5, vt 1152 (partT m c i k)), (6, vi i), (7, vi k)], []⟩)
    (fun k => c - k) (fun k => k ≤ c) 0 (by omega) ?_ ?_
  · simp only [go_sem]
  intro k hk
  by_cases hk2 : k < c
  · have hgk := getv (l := m[i]!) (i := k) (by omega)
    have hg := gett (t := 1152) (i := k) (M := partT m c i k) (by rw [partT_len]; exact hk2)
    rw [partT_at hk2] at hg
    have hwk : IntKind.i64.wrap (k + 1) = k + 1 := wrap_in (by omega) (by omega)
    have hmi : m[i]? = some m[i]! := by rw [getElem!_pos m i h]; simp [h]
    have htk : (m.take (i + 1)).map (fun r => r[k]!) = (m.take i).map (fun r => r[k]!) ++ [m[i]![k]!] := by
      rw [List.take_add_one, hmi, List.map_append]; rfl
    simp only [go_sem, h, hgi, hri, hk2]
    refine DrawK.front [0, 1] 14 mixed (by kernel_rfl) ?_
    simp only [go_sem, h, hk2, hg, hgi, hri, hgk, partT_len]
    refine ⟨by simp [roomFor]; omega, roundK.intro (k + 1) (by omega) (by omega) ?_⟩
    have ec : (List.map (vi ∘ fun r : List Int => r[k]!) (List.take i m) ++ [AV.sc (Value.int IntKind.i64 m[i]![k]!)]) = ((m.take (i + 1)).map fun r => r[k]!).map vi := by
      rw [htk, List.map_append, List.map_map]; rfl
    rw [ec, rowsA_killset2 (t := 1152) (by omega), partT_set]
    simp only [go_sem, hwk]
  · have hkc : k = c := by omega
    subst hkc
    simp only [go_sem, h, hgi, hri, hk2, hwi]
    refine roundK.intro (i + 1) (by omega) (by omega) ?_
    simp only [go_sem, partT_next]
end Go.AM
