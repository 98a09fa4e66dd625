/-
  Walks: slices.Repeat.
-/
import Derived.Test.YthmjnbmooedfjaaW6
import Derived.Test.YthmjnbmooedfjaaAmU
namespace Go.AM
open Go Go.Proofs Go.RowKit

def vq (x : Int) : AV := .sc (.int .u64 x)
attribute [go_sem] vq

set_option maxRecDepth 100000 in
theorem con_mul64 (n : Nat) (hn : n ≤ 8) : Con Try.prog 66 [vq 1, vq n] [] fun r _ => r = .tup [vq 0, vq n] := by
  refine Con.intro Try.func66 rfl Try.ntmps66 Try.results66 (by kernel_rfl) (by simp) 0 (by simp) ?_
  simp only [go_sem]
  have h : n = 0 ∨ n = 1 ∨ n = 2 ∨ n = 3 ∨ n = 4 ∨ n = 5 ∨ n = 6 ∨ n = 7 ∨ n = 8 := by omega
  rcases h with rfl | rfl | rfl | rfl | rfl | rfl | rfl | rfl | rfl <;> (show AV.tup _ = AV.tup _; first | rfl | kernel_rfl)

set_option maxRecDepth 100000 in
theorem con_mul (n : Nat) (hn : n ≤ 8) : Con Try.prog 56 [vq 1, vq n] [] fun r _ => r = .tup [vq 0, vq n] := by
  refine Con.intro Try.func56 rfl Try.ntmps56 Try.results56 (by kernel_rfl) (by simp) 0 (by simp) ?_
  simp only [go_sem]
  refine CallU.free (con_mul64 n hn) (by simp only [go_sem]) (by simp only [go_sem]) ?_
  rintro r bx rfl
  simp only [go_sem]

theorem rep_false (n : Nat) : List.replicate n (AV.sc (.bool false)) = (List.replicate n false).map vb := by simp [vb]
theorem leafAll_vb (l : List Bool) : leafAll (l.map vb) = true := by simp [leafAll, vb, AV.leafy]

theorem setSeg_true {l m : List Bool} {k : Nat} (hf : k + m.length ≤ l.length) (hl : ∀ j, j < k → l[j]! = true) (hm : ∀ x ∈ m, x = true) : ∀ j, j < k + m.length → (setSeg l k m)[j]! = true := by
  intro j hj
  rw [setSeg_eq _ _ _ hf]
  have hk : k ≤ l.length := by omega
  by_cases h : j < k
  · have h2 := hl j h
    rw [getElem!_pos l j (by omega)] at h2
    rw [List.append_assoc, getElem!_pos _ j (by simp; omega), List.getElem_append_left (by simp; omega), List.getElem_take]; exact h2
  · rw [getElem!_pos _ j (by simp; omega), List.getElem_append_left (by simp; omega), List.getElem_append_right (by simp; omega)]
    exact hm _ (List.getElem_mem _)

set_option maxRecDepth 100000 in
theorem con_repeat (n : Nat) (h1 : 1 ≤ n) (hn : n ≤ 8) : Con Try.prog 36 [vbl 0 [true], vi n] [] fun r _ => r = .sl 2 1 ((List.replicate n true).map vb) := by
  refine Con.intro Try.func36 rfl Try.ntmps36 Try.results36 (by kernel_rfl) (by simp) 0 (by simp) ?_
  have g0 : ¬ (n : Int) < 0 := by omega
  have w1 : IntKind.u64.wrap (1 : Int) = 1 := by kernel_rfl
  have w2 : IntKind.u64.wrap (n : Int) = n := by rw [IntKind.wrap_u64]; omega
  have w3 : IntKind.i64.wrap (n : Int) = n := wrap_in (by omega) (by omega)
  have g1 : ¬ (9223372036854775807 : Int) < n := by omega
  simp only [go_sem, g0, w1, w2]
  refine CallU.free (con_mul n hn) (by simp only [go_sem]) (by simp only [go_sem]) ?_
  rintro r bx rfl
  have t1 : List.take (n - 0) [AV.sc (Value.bool true)] = [true].map vb := by
    rw [List.take_of_length_le (by simp; omega)]; simp [vb]
  have hl1 : leafAll [AV.sc (Value.bool true)] = true := rfl
  have m1 : min 1 (n - 0) = 1 := by omega
  simp only [go_sem, g1, w3, rep_false, List.length_replicate, t1, setSeg_map, hl1, m1]
  refine ⟨Nat.le_refl _, by omega, by omega, by omega, ?_⟩
  refine LoopK.intro (fun p : List Bool × Nat => ⟨48, [(4, .nil), (7, .sl 1984 1 (p.1.map vb)), (8, .sc (.int .i64 p.2))], []⟩)
    (fun p => n - p.2) (fun p => 1 ≤ p.2 ∧ p.2 ≤ n ∧ p.1.length = n ∧ ∀ j, j < p.2 → p.1[j]! = true) (setSeg (List.replicate n false) 0 [true], 1) ⟨by simp, h1, by simp [setSeg_length], fun j hj => ?_⟩ ?_ ?_
  · have : j = 0 := by simp at hj; exact hj
    subst this
    have h0 : 0 < n := by omega
    simp [setSeg, h0]
  · simp only [go_sem, setSeg, List.map_set]
  rintro ⟨l, k⟩ ⟨k1, k2, k3, k4⟩
  simp only at k1 k2 k3 k4
  by_cases hk : k < n
  case neg =>
    have e : l = List.replicate n true := by
      apply List.ext_getElem?
      intro j
      by_cases hj : j < n
      · have := k4 j (by omega)
        rw [List.getElem?_replicate, if_pos hj, ← this]; simp [k3, hj]
      · rw [List.getElem?_eq_none (by omega), List.getElem?_eq_none (by simp; omega)]
    simp only [go_sem, hk, k3]
    rw [e]
  simp only [go_sem, hk, k3]
  refine DrawK.front [0] 7 mixed (by kernel_rfl) ?_
  have q0 : ¬ k = 0 := by omega
  have tk : ∀ m : Nat, List.take m (List.map vb l) = (List.take m l).map vb := fun m => List.map_take.symm
  have tk2 : List.take (n - k) (List.map vb (List.take k l)) = ((l.take k).take (n - k)).map vb := List.map_take.symm
  have hmin : min (min k n) (n - k) = min k (n - k) := by omega
  have hw : IntKind.i64.wrap (k + (min k (n - k) : Nat)) = (k + min k (n - k) : Nat) := by rw [wrap_in (by omega) (by omega)]; omega
  simp only [go_sem, hk, k3, k2, List.length_take, tk, tk2, setSeg_map, leafAll_vb, hmin, hw]
  have hml : ((l.take k).take (n - k)).length = min k (n - k) := by simp only [List.length_take]; omega
  have hmt : ∀ x ∈ (l.take k).take (n - k), x = true := fun x hx => by
    have hx := List.mem_of_mem_take hx
    obtain ⟨j, hj⟩ := List.getElem?_of_mem hx
    rw [List.getElem?_take] at hj
    split at hj
    · rename_i hjk
      have := k4 j hjk
      rw [bang_of hj] at this; exact this
    · cases hj
  have hset := setSeg_true (l := l) (m := (l.take k).take (n - k)) (k := k) (by rw [hml]; omega) k4 hmt
  rw [hml] at hset
  refine ⟨by omega, leafAll_vb _, roundK.intro (setSeg l k ((l.take k).take (n - k)), k + min k (n - k)) ⟨by show 1 ≤ k + min k (n - k); omega, by show k + min k (n - k) ≤ n; omega, by show (setSeg _ _ _).length = n; rw [setSeg_length]; exact k3, hset⟩ (by show n - (k + min k (n - k)) < n - k; omega) ?_⟩
  simp only [go_sem]
end Go.AM
