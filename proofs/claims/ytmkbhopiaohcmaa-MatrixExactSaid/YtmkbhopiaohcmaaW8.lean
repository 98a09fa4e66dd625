/-
  The walk of MatrixLinear.
-/
import Derived.Test.YtmkbhopiaohcmaaWF
namespace Go.AM
open Go Go.Proofs Go.RowKit

def sumF (u v : List Int) (i : Nat) : List Int := (List.range i).map fun k : Nat => (u[k]! - 2 * v[k]! : Int)

theorem apply_small {m : List (List Int)} {w : List Int} {n c : Nat} (hn : m.length = n) (h1 : 1 ≤ n) (h2 : n ≤ 4) (h3 : 1 ≤ c) (h4 : c ≤ 6) (hm : ∀ row ∈ m, RowOk c row) (hw : w.length = c) (hx : ∀ x ∈ w, -64 ≤ x ∧ x ≤ 64) :
    applyF m w = (m.map fun row => dotF row w, 0) := by
  have h0 : m[0]!.length = c := (hm _ (by simp [show 0 < m.length by omega])).1
  have hbad : m.any (badRow c) = false := by
    rw [List.any_eq_false]
    intro row hr
    obtain ⟨g1, g2⟩ := hm row hr
    have : row.any lawBad = false := by
      rw [List.any_eq_false]
      intro x hx
      have := g2 x hx
      simp only [lawBad, Bool.or_eq_true, decide_eq_true_eq]; omega
    simp [badRow, g1, this]
  have hc : checkF m = 0 := by
    unfold checkF
    rw [h0, if_neg (by omega), if_neg (by omega), hbad]; rfl
  have hf : w.any lawFar = false := by
    rw [List.any_eq_false]
    intro x h
    have := hx x h
    simp only [lawFar, Bool.or_eq_true, decide_eq_true_eq]; omega
  unfold applyF
  rw [hc, h0, hf, hw]; simp

set_option maxRecDepth 100000 in
set_option maxHeartbeats 4000000 in
theorem con_linear (l : List Int) : Con Try.prog 4 [vs 0 l] [] fun r _ => r = .sc (.bool true) := by
  refine Con.intro Try.func4 rfl Try.ntmps4 Try.results4 (by kernel_rfl) (by simp) 0 (by simp) ?_
  simp only [go_sem]
  refine CallU.free awake (by simp only [go_sem]) (by simp only [go_sem]) ?_
  rintro r bx rfl
  simp only [go_sem]
  refine CallU.free (con_few l 0 (by omega)) (by simp only [go_sem]) (by simp only [go_sem]) ?_
  rintro r bx rfl
  by_cases hf : ¬ l.length ≤ 400
  · simp only [go_sem, hf]
    refine CallU.free awake (by simp only [go_sem]) (by simp only [go_sem]) ?_
    rintro r bx rfl
    simp only [go_sem]
  have hf : l.length ≤ 400 := by omega
  have hl : l.length ≤ 140737488355328 := by omega
  simp only [go_sem, hf]
  refine CallU.news (bx0 := []) (con_new l) (by simp only [go_sem]) (by simp only [go_sem]) (by simp only [go_sem]) (by simp only [go_sem]) (by simp only [go_sem]) ?_
  rintro r bx ⟨rfl, rfl⟩
  simp only [go_sem]
  refine CallU.boxes (i := 0) (is := []) (bx0 := [deckA l 0 11400714819323198485]) (con_next l 0 11400714819323198485 4 (by omega) hl (by omega)) (by simp only [go_sem]) (by simp only [go_sem]) (by simp only [go_sem]) (by simp only [go_sem]) (by simp only [go_sem]) ?_
  rintro r bx ⟨v1, a1, s1, rfl, p1, p2, p3, rfl⟩
  obtain ⟨n, hn, hn1, hn4⟩ : ∃ n : Nat, IntKind.i64.wrap (1 + v1) = n ∧ 1 ≤ n ∧ n ≤ 4 := ⟨(1 + v1).toNat, by rw [wrap_in (by omega) (by omega)]; omega, by omega, by omega⟩
  simp only [go_sem, hn]
  refine CallU.boxes (i := 0) (is := []) (bx0 := [deckA l a1 s1]) (con_next l a1 s1 6 p3 hl (by omega)) (by simp only [go_sem]) (by simp only [go_sem]) (by simp only [go_sem]) (by simp only [go_sem]) (by simp only [go_sem]) ?_
  rintro r bx ⟨v2, a2, s2, rfl, q1, q2, q3, rfl⟩
  obtain ⟨c, hc, hc1, hc6⟩ : ∃ c : Nat, IntKind.i64.wrap (1 + v2) = c ∧ 1 ≤ c ∧ c ≤ 6 := ⟨(1 + v2).toNat, by rw [wrap_in (by omega) (by omega)]; omega, by omega, by omega⟩
  simp only [go_sem, hc]
  refine CallU.boxes (i := 0) (is := []) (bx0 := [deckA l a2 s2]) (con_matrix l a2 s2 n c q3 hl (by omega) (by omega)) (by simp only [go_sem]) (by simp only [go_sem]) (by simp only [go_sem]) (by simp only [go_sem]) (by simp only [go_sem]) ?_
  rintro r bx ⟨m, a3, s3, rfl, m1, m2, m3, rfl⟩
  simp only [go_sem]
  refine CallU.boxes (i := 0) (is := []) (bx0 := [deckA l a3 s3]) (con_small l a3 s3 c 9 m3 hl (by omega) (by omega) (by omega)) (by simp only [go_sem]) (by simp only [go_sem]) (by simp only [go_sem]) (by simp only [go_sem]) (by simp only [go_sem]) ?_
  rintro r bx ⟨u, a4, s4, rfl, u1, u2, u3, rfl⟩
  simp only [go_sem]
  refine CallU.boxes (i := 0) (is := []) (bx0 := [deckA l a4 s4]) (con_small l a4 s4 c 9 u3 hl (by omega) (by omega) (by omega)) (by simp only [go_sem]) (by simp only [go_sem]) (by simp only [go_sem]) (by simp only [go_sem]) (by simp only [go_sem]) ?_
  rintro r bx ⟨v, a5, s5, rfl, v1', v2', v3', rfl⟩
  simp only [go_sem]
  refine LoopK.intro (fun i : Nat => ⟨130, [(4, .sc (.int .i64 n)), (6, .sl 2434 1 (m.map (vs 0))), (7, .sl 2626 1 (u.map vi)), (8, .sl 2818 1 (v.map vi)), (9, .sl 640 1 ((sumF u v i).map vi)), (44, .sl 2626 1 (u.map vi)), (45, .sc (.int .i64 u.length)), (46, .sc (.int .i64 i))], [[.any, .any, .any]]⟩)
    (fun i => u.length - i) (fun i => i ≤ u.length) 0 (by omega) ?_ ?_
  · simp only [go_sem, sumF, List.range_zero]
  intro i hi
  by_cases h : i < u.length
  · have h' : i < v.length := by omega
    have hg := getv h
    have hg' := getv h'
    have hw : IntKind.i64.wrap (i + 1) = i + 1 := wrap_in (by omega) (by omega)
    have hu := u2 u[i]! (by simp [h])
    have hv := v2' v[i]! (by simp [h'])
    have hw2 : IntKind.i64.wrap (2 * v[i]!) = 2 * v[i]! := wrap_in (by omega) (by omega)
    have hw3 : IntKind.i64.wrap (u[i]! - 2 * v[i]!) = u[i]! - 2 * v[i]! := wrap_in (by omega) (by omega)
    simp only [go_sem, h]
    refine DrawK.walk 12 mixed (by kernel_rfl) ?_
    simp only [go_sem, h, h', hg, hg', hw, hw2, hw3]
    refine ⟨by simp [roomFor, sumF]; omega, roundK.intro (i + 1) (by omega) (by omega) ?_⟩
    simp only [go_sem]
    exact leV_sl (by simp [sumF, List.range_succ, vi])
  have hiu : i = c := by omega
  simp only [go_sem, h]
  subst hiu
  have hR : ∀ w : List Int, w.length = i → (∀ x ∈ w, -64 ≤ x ∧ x ≤ 64) → applyF m w = (m.map fun row => dotF row w, 0) := fun w hw hx => apply_small (n := n) (c := i) m1 (by omega) (by omega) (by omega) (by omega) m2 hw hx
  have hfit : Fits m := ⟨by omega, fun row hr => by rw [(m2 row hr).1]; omega⟩
  obtain ⟨X, hX⟩ : ∃ X, X = m.map fun row => dotF row u := ⟨_, rfl⟩
  obtain ⟨Y, hY⟩ : ∃ Y, Y = m.map fun row => dotF row v := ⟨_, rfl⟩
  obtain ⟨Z, hZ⟩ : ∃ Z, Z = m.map fun row => dotF row (sumF u v i) := ⟨_, rfl⟩
  have hXl : X.length = n := by rw [hX, List.length_map, m1]
  have hYl : Y.length = n := by rw [hY, List.length_map, m1]
  have hZl : Z.length = n := by rw [hZ, List.length_map, m1]
  have hsl : (sumF u v i).length = i := by simp [sumF]
  have hsx : ∀ k, k < i → (sumF u v i)[k]! = u[k]! - 2 * v[k]! := fun k hk => by simp [sumF, hk]
  have hub : ∀ k, k < i → 0 ≤ u[k]! ∧ u[k]! ≤ 9 := fun k hk => u2 _ (by simp [show k < u.length by omega])
  have hvb : ∀ k, k < i → 0 ≤ v[k]! ∧ v[k]! ≤ 9 := fun k hk => v2' _ (by simp [show k < v.length by omega])
  have hsb : ∀ x ∈ sumF u v i, -64 ≤ x ∧ x ≤ 64 := fun x hx => by
    obtain ⟨k, hk⟩ := List.getElem?_of_mem hx
    have hkl : k < i := by rw [← hsl]; exact (List.getElem?_eq_some_iff.1 hk).1
    have e : (sumF u v i)[k]! = x := by simp [hk]
    have := hub k hkl; have := hvb k hkl; have := hsx k hkl
    omega
  have hfin : ∀ k, k < n → Z[k]! = X[k]! - 2 * Y[k]! ∧ -1000000000 ≤ X[k]! ∧ X[k]! ≤ 1000000000 ∧ -1000000000 ≤ Y[k]! ∧ Y[k]! ≤ 1000000000 := fun k hk => by
    have hkm : k < m.length := by omega
    have hrow := m2 m[k]! (by simp [hkm])
    have hrl : m[k]!.length = i := hrow.1
    have hrb : ∀ j, j < i → -16 ≤ m[k]![j]! ∧ m[k]![j]! ≤ 16 := fun j hj => hrow.2 _ (by rw [getElem!_pos m[k]! j (by omega)]; exact List.getElem_mem _)
    have e : ∀ (f : List Int → Int), (m.map f)[k]! = f m[k]! := fun f => by simp [hkm]
    rw [hX, hY, hZ, e, e, e]
    simp only [dotF, hrl]
    obtain ⟨d1, d2, d3⟩ := dotN_eq (a := m[k]!) (b := u) i (by omega) hrb (fun j hj => by have := hub j hj; omega)
    obtain ⟨d4, d5, d6⟩ := dotN_eq (a := m[k]!) (b := v) i (by omega) hrb (fun j hj => by have := hvb j hj; omega)
    obtain ⟨d7, _, _⟩ := dotN_eq (a := m[k]!) (b := sumF u v i) i (by omega) hrb (fun j hj => by have := hub j hj; have := hvb j hj; have := hsx j hj; omega)
    rw [d1, d4, d7, dotZ_linear i hsx]
    refine ⟨rfl, ?_, ?_, ?_, ?_⟩ <;> omega
  refine CallU.freeze (con_apply m u hfit (by omega)) (by simp only [go_sem]) (by simp only [go_sem]) ?_
  rintro r bx rfl
  rw [hR u u1 (fun x hx => by have := u2 x hx; omega), ← hX]
  simp only [go_sem, vpair]
  refine CallU.freeze (con_apply m v hfit (by omega)) (by simp only [go_sem]) (by simp only [go_sem]) ?_
  rintro r bx rfl
  rw [hR v v1' (fun x hx => by have := v2' x hx; omega), ← hY]
  simp only [go_sem, vpair]
  refine CallU.freeze (con_apply m (sumF u v i) hfit (by omega)) (by simp only [go_sem]) (by simp only [go_sem]) ?_
  rintro r bx rfl
  rw [hR _ hsl hsb, ← hZ]
  simp only [go_sem, vpair, hXl, hYl, hZl]
  refine LoopK.intro (fun k : Nat => ⟨130, [(11, .sl 4290 1 (X.map vi)), (13, .sl 4674 1 (Y.map vi)), (15, .sl 5058 1 (Z.map vi)), (110, .sc (.int .i64 n)), (111, .sc (.int .i64 k))], [[.any, .any, .any]]⟩)
    (fun k => n - k) (fun k => k ≤ n) 0 (by omega) ?_ ?_
  · simp only [go_sem]
  intro k hk
  by_cases hkn : k < n
  · have gX := getv (l := X) (i := k) (by omega)
    have gY := getv (l := Y) (i := k) (by omega)
    have gZ := getv (l := Z) (i := k) (by omega)
    obtain ⟨f1, f2, f3, f4, f5⟩ := hfin k hkn
    have hw : IntKind.i64.wrap (k + 1) = k + 1 := wrap_in (by omega) (by omega)
    have hw2 : IntKind.i64.wrap (2 * Y[k]!) = 2 * Y[k]! := wrap_in (by omega) (by omega)
    have hw3 : IntKind.i64.wrap (X[k]! - 2 * Y[k]!) = X[k]! - 2 * Y[k]! := wrap_in (by omega) (by omega)
    simp only [go_sem, hkn]
    refine DrawK.walk 15 mixed (by kernel_rfl) ?_
    simp only [go_sem, hkn, hXl, hYl, hZl, gX, gY, gZ, hw, hw2, hw3, f1]
    refine roundK.intro (k + 1) (by omega) (by omega) ?_
    simp only [go_sem]
  · simp only [go_sem, hkn]
end Go.AM
