/-
  Walks: the reference's plain functions.
-/
import Derived.Test.YtmkbhopiaohcmaaWK
namespace Go.AM
open Go Go.Proofs Go.RowKit

theorem con_order (a b : Int) : Con Try.prog 54 [vi a, vi b] [] fun r _ => r = vi (if a < b then -1 else if b < a then 1 else 0) := by
  refine Con.intro Try.func54 rfl Try.ntmps54 Try.results54 (by kernel_rfl) (by simp) 0 (by simp) ?_
  by_cases h : a < b
  · simp only [go_sem, h]
  · by_cases h2 : b < a <;> simp only [go_sem, h, h2]

def narrowF (m : List (List Int)) : Bool := !(m.any fun r => decide (20 < r.length)) && decide (m.length ≤ 20)

set_option maxRecDepth 100000 in
theorem con_narrow (m : List (List Int)) (hm : Fits m) : Con Try.prog 18 [vm 0 m] [] fun r _ => r = .sc (.bool (narrowF m)) := by
  refine Con.intro Try.func18 rfl Try.ntmps18 Try.results18 (by kernel_rfl) (by simp) 0 (by simp) ?_
  have hl := hm.1
  simp only [go_sem]
  refine LoopK.intro (fun i : Nat => ⟨19, [(0, vm 0 m), (5, vi m.length), (6, vi i)], []⟩)
    (fun i => m.length - i) (fun i => i ≤ m.length ∧ ∀ j, j < i → (decide (20 < m[j]!.length)) = false) 0 ⟨by omega, fun j hj => by omega⟩ ?_ ?_
  · simp only [go_sem]
  rintro i ⟨hi, hb⟩
  by_cases h : i < m.length
  · have hg := getm h
    have hw : IntKind.i64.wrap (i + 1) = i + 1 := wrap_in (by omega) (by omega)
    by_cases hn : 20 < m[i]!.length
    · simp only [go_sem, h, hg, hn, narrowF]
      rw [any_stop h (by simp only [hn, decide_true])]; rfl
    · simp only [go_sem, h, hg, hn, hw]
      refine roundK.intro (i + 1) ⟨by omega, fun j hj => ?_⟩ (by omega) ?_
      · by_cases hji : j = i
        · rw [hji]; exact decide_eq_false hn
        · exact hb j (by omega)
      · simp only [go_sem]
  · have e := any_none (p := fun r : List Int => decide (20 < r.length)) (fun j hj => hb j (by omega))
    simp only [go_sem, h, narrowF, e]

set_option maxRecDepth 100000 in
/-- are two lists the same? -/
theorem con_compare (a b : List Int) (ha : a.length ≤ 140737488355328) : Con Try.prog 47 [vs 0 a, vs 0 b] [] fun r _ => ∃ x : Int, r = vi x ∧ (x = 0 ↔ a = b) := by
  refine Con.intro Try.func47 rfl Try.ntmps47 Try.results47 (by kernel_rfl) (by simp) 0 (by simp) ?_
  by_cases hl : a.length = b.length
  · simp only [go_sem, hl]
    refine LoopK.intro (fun i : Nat => ⟨40, [(0, vs 0 a), (1, vs 0 b), (5, vi i)], []⟩)
      (fun i => a.length - i) (fun i => i ≤ a.length ∧ ∀ j, j < i → a[j]! = b[j]!) 0 ⟨by omega, fun j hj => by omega⟩ ?_ ?_
    · simp only [go_sem]
    rintro i ⟨hi, hs⟩
    by_cases h : i < a.length
    · have h' : i < b.length := by omega
      have hg := getv h
      have hg' := getv h'
      have hw : IntKind.i64.wrap (i + 1) = i + 1 := wrap_in (by omega) (by omega)
      simp only [go_sem, h]
      refine DrawK.walk 9 mixed (by kernel_rfl) ?_
      by_cases he : a[i]! = b[i]!
      · simp only [go_sem, h, h', hg, hg', he, hw]
        refine roundK.intro (i + 1) ⟨by omega, fun j hj => ?_⟩ (by omega) ?_
        · by_cases hji : j = i
          · subst hji; exact he
          · exact hs j (by omega)
        · simp only [go_sem]
      · have hne : (a[i]! != b[i]!) = true := bne_iff_ne.2 he
        simp only [go_sem, h, h', hg, hg', hne]
        refine DrawK.walk 9 mixed (by kernel_rfl) ?_
        simp only [go_sem, h, h', hg, hg']
        refine CallY.mk (con_order a[i]! b[i]!) (by simp only [go_sem]) (by simp only [go_sem]) (by simp only [go_sem]) ?_
        simp only [go_sem]
        refine ⟨_, rfl, fun h0 => ?_, fun h0 => absurd (by rw [h0]) he⟩
        split at h0
        · cases h0
        · split at h0
          · cases h0
          · exact absurd (by omega) he
    · simp only [go_sem, h]
      refine ⟨0, rfl, fun _ => ?_, fun _ => rfl⟩
      apply List.ext_getElem hl
      intro j h1 h2
      have := hs j (by omega)
      rw [getElem!_pos a j h1, getElem!_pos b j h2] at this
      exact this
  · simp only [go_sem, hl]
    refine CallU.free (con_order a.length b.length) (by simp only [go_sem]) (by simp only [go_sem]) ?_
    rintro r bx rfl
    simp only [go_sem]
    refine ⟨_, rfl, fun h0 => ?_, fun h0 => absurd (by rw [h0]) hl⟩
    split at h0
    · cases h0
    · split at h0
      · cases h0
      · exact absurd (by omega) hl

theorem con_same (a b : List Int) (ha : a.length ≤ 140737488355328) : Con Try.prog 28 [vs 0 a, vs 0 b] [] fun r _ => r = .sc (.bool (decide (a = b))) := by
  refine Con.intro Try.func28 rfl Try.ntmps28 Try.results28 (by kernel_rfl) (by simp) 0 (by simp) ?_
  simp only [go_sem]
  refine CallU.free (con_compare a b ha) (by simp only [go_sem]) (by simp only [go_sem]) ?_
  rintro r bx ⟨x, rfl, hx⟩
  by_cases h : x = 0
  · have e : decide (a = b) = true := decide_eq_true (hx.1 h)
    rw [e, h]; simp only [go_sem]
  · have e : decide (a = b) = false := decide_eq_false fun h' => h (hx.2 h')
    have hx0 : (x == 0) = false := beq_eq_false_iff_ne.2 h
    rw [e]; simp only [go_sem, hx0]

set_option maxRecDepth 100000 in
theorem con_sameAll (a b : List (List Int)) (ha : Fits a) : Con Try.prog 22 [vm 0 a, vm 0 b] [] fun r _ => r = .sc (.bool (decide (a = b))) := by
  refine Con.intro Try.func22 rfl Try.ntmps22 Try.results22 (by kernel_rfl) (by simp) 0 (by simp) ?_
  have hal := ha.1
  by_cases hl : a.length = b.length
  · simp only [go_sem, hl]
    refine LoopK.intro (fun i : Nat => ⟨27, [(0, vm 0 a), (1, vm 0 b), (5, vi i)], []⟩)
      (fun i => a.length - i) (fun i => i ≤ a.length ∧ ∀ j, j < i → a[j]! = b[j]!) 0 ⟨by omega, fun j hj => by omega⟩ ?_ ?_
    · simp only [go_sem]
    rintro i ⟨hi, hs⟩
    by_cases h : i < a.length
    · have h' : i < b.length := by omega
      have hg := getm h
      have hg' := getm h'
      have hw : IntKind.i64.wrap (i + 1) = i + 1 := wrap_in (by omega) (by omega)
      simp only [go_sem, h]
      refine DrawK.walk 10 mixed (by kernel_rfl) ?_
      simp only [go_sem, h, h', hg, hg']
      refine CallY.mk (con_same a[i]! b[i]! (ha.at h)) (by simp only [go_sem]) (by simp only [go_sem]) (by simp only [go_sem]) ?_
      by_cases he : a[i]! = b[i]!
      · have e : decide (a[i]! = b[i]!) = true := decide_eq_true he
        rw [e]
        simp only [go_sem, hw]
        refine roundK.intro (i + 1) ⟨by omega, fun j hj => ?_⟩ (by omega) ?_
        · by_cases hji : j = i
          · rw [hji]; exact he
          · exact hs j (by omega)
        · simp only [go_sem]
      · have e : decide (a[i]! = b[i]!) = false := decide_eq_false he
        have e2 : decide (a = b) = false := decide_eq_false fun h' => he (by rw [h'])
        rw [e]
        simp only [go_sem, e2]
    · have e2 : decide (a = b) = true := decide_eq_true (by
        apply List.ext_getElem hl
        intro j h1 h2
        have := hs j (by omega)
        rw [getElem!_pos a j h1, getElem!_pos b j h2] at this
        exact this)
      simp only [go_sem, h, e2]
  · have e2 : decide (a = b) = false := decide_eq_false fun h' => hl (by rw [h'])
    simp only [go_sem, hl, e2]

set_option maxRecDepth 100000 in
set_option maxHeartbeats 1000000 in
theorem con_refCheck (m : List (List Int)) (hm : Fits m) : Con Try.prog 20 [vm 0 m] [] fun r _ => r = vi (checkF m) := by
  refine Con.intro Try.func20 rfl Try.ntmps20 Try.results20 (by kernel_rfl) (by simp) 0 (by simp) ?_
  have hml := hm.1
  by_cases h1 : m.length < 1
  · simp only [go_sem, h1, checkF, true_or]
  by_cases h2 : 12 < m.length
  · simp only [go_sem, h1, h2, checkF, true_or, or_true]
  have hg0 := getm (l := m) (i := 0) (by omega)
  have hp0 : 0 < m.length := by omega
  by_cases h3 : m[0]!.length < 1
  · simp only [go_sem, h1, h2, h3, hg0, hp0, checkF, true_or, false_or, or_false]
  by_cases h4 : 12 < m[0]!.length
  · simp only [go_sem, h1, h2, h3, h4, hg0, hp0, checkF, true_or, false_or, or_false, or_true]
  by_cases h5 : 6 < min m[0]!.length m.length
  · have h6 : 6 < m.length := by omega
    have h7 : 6 < m[0]!.length := by omega
    simp only [go_sem, h1, h2, h3, h4, h5, h6, h7, hg0, hp0, checkF, true_or, false_or, or_false, or_true]
  simp only [checkF, h1, h2, h3, h4, h5, or_false, if_false]
  by_cases h6 : 6 < m.length
  case' pos =>
    have h7 : ¬ 6 < m[0]!.length := by omega
    simp only [go_sem, h1, h2, h3, h4, h6, h7, hg0, hp0]
  case' neg =>
    simp only [go_sem, h1, h2, h3, h4, h6, hg0, hp0]
  all_goals
    refine LoopK.intro (fun i : Nat => ⟨82, [(0, vm 0 m), (3, vi i)], []⟩)
      (fun i => m.length - i) (fun i => i ≤ m.length ∧ ∀ j, j < i → badRow m[0]!.length m[j]! = false) 0 ⟨by omega, fun j hj => by omega⟩ ?_ ?_
    · simp only [go_sem]
    rintro i ⟨hi, hb⟩
    by_cases h : i < m.length
    · have hg := getm h
      have hw : IntKind.i64.wrap (i + 1) = i + 1 := wrap_in (by omega) (by omega)
      have hr := hm.at h
      simp only [go_sem, h]
      refine DrawK.walk 10 mixed (by kernel_rfl) ?_
      by_cases hn : m[i]!.length = m[0]!.length
      · simp only [go_sem, h, hg, hg0, hp0, hn]
        refine LoopK.intro (fun k : Nat => ⟨82, [(0, vm 0 m), (3, vi i), (4, vi k)], []⟩)
          (fun k => m[i]!.length - k) (fun k => k ≤ m[i]!.length ∧ ∀ j, j < k → lawBad m[i]![j]! = false) 0 ⟨by omega, fun j hj => by omega⟩ ?_ ?_
        · simp only [go_sem]
        rintro k ⟨hk, hc⟩
        by_cases hk2 : k < m[i]!.length
        · have hgk := getv hk2
          have hwk : IntKind.i64.wrap (k + 1) = k + 1 := wrap_in (by omega) (by omega)
          by_cases hlo : m[i]![k]! < -16
          · have hbad : badRow m[0]!.length m[i]! = true := by
              have : m[i]!.any lawBad = true := any_stop hk2 (by simp only [lawBad, Bool.or_eq_true, decide_eq_true_eq]; omega)
              simp only [badRow, this, Bool.or_true]
            have := any_stop h hbad
            simp only [go_sem, h, hg, hk2, hgk, hlo, this]
          · by_cases hhi : 16 < m[i]![k]!
            · have hbad : badRow m[0]!.length m[i]! = true := by
                have : m[i]!.any lawBad = true := any_stop hk2 (by simp only [lawBad, Bool.or_eq_true, decide_eq_true_eq]; omega)
                simp only [badRow, this, Bool.or_true]
              have := any_stop h hbad
              simp only [go_sem, h, hg, hk2, hgk, hlo, hhi, this]
            · simp only [go_sem, h, hg, hk2, hgk, hlo, hhi, hwk]
              refine roundK.intro (k + 1) ⟨by omega, fun j hj => ?_⟩ (by omega) ?_
              · by_cases hjk : j = k
                · rw [hjk]; simp only [lawBad, hlo, hhi, decide_false, Bool.or_false]
                · exact hc j (by omega)
              · simp only [go_sem]
        · simp only [go_sem, h, hg, hk2, hw]
          refine roundK.intro (i + 1) ⟨by omega, fun j hj => ?_⟩ (by omega) ?_
          · by_cases hji : j = i
            · have := any_none (p := lawBad) (fun j hj => hc j (by omega))
              rw [hji]; simp only [badRow, hn, this, ne_eq, not_true_eq_false, decide_false, Bool.or_false]
            · exact hb j (by omega)
          · simp only [go_sem]
      · have hne : (m[i]!.length : Int) ≠ m[0]!.length := by omega
        have hbad : badRow m[0]!.length m[i]! = true := by simp only [badRow, hn, ne_eq, not_false_eq_true, decide_true, Bool.true_or]
        have := any_stop h hbad
        simp only [go_sem, h, hg, hg0, hp0, hn, this]
    · have := any_none (p := badRow m[0]!.length) (fun j hj => hb j (by omega))
      simp only [go_sem, h, this]
end Go.AM
