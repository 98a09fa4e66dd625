/-
  Plain laws: products of vectors without a bound; what Apply says of small numbers.
-/
import Derived.Test.YtmkbhopiaohcmaaW6
namespace Go.AM
open Go Go.Proofs Go.RowKit

theorem mul_bound {x y a b : Int} (h1 : -a ≤ x) (h2 : x ≤ a) (h3 : -b ≤ y) (h4 : y ≤ b) : -(a * b) ≤ x * y ∧ x * y ≤ a * b := by
  have e1 : 0 ≤ (a - x) * (b + y) := Int.mul_nonneg (by omega) (by omega)
  have e2 : 0 ≤ (a + x) * (b - y) := Int.mul_nonneg (by omega) (by omega)
  have e3 : 0 ≤ (a - x) * (b - y) := Int.mul_nonneg (by omega) (by omega)
  have e4 : 0 ≤ (a + x) * (b + y) := Int.mul_nonneg (by omega) (by omega)
  simp only [Int.sub_mul, Int.add_mul, Int.mul_add, Int.mul_sub] at e1 e2 e3 e4
  omega

def dotZ (a b : List Int) : Nat → Int
  | 0 => 0
  | k + 1 => dotZ a b k + a[k]! * b[k]!

theorem dotN_eq {a b : List Int} : ∀ (k : Nat), k ≤ 1000000 → (∀ i, i < k → -16 ≤ a[i]! ∧ a[i]! ≤ 16) → (∀ i, i < k → -1048576 ≤ b[i]! ∧ b[i]! ≤ 1048576) →
    dotN a b k = dotZ a b k ∧ -(k * 16777216) ≤ dotZ a b k ∧ dotZ a b k ≤ k * 16777216
  | 0, _, _, _ => by simp [dotN, dotZ]
  | k + 1, hk, ha, hb => by
    obtain ⟨h1, h2, h3⟩ := dotN_eq k (by omega) (fun i hi => ha i (by omega)) (fun i hi => hb i (by omega))
    have := mul_bound (ha k (by omega)).1 (ha k (by omega)).2 (hb k (by omega)).1 (hb k (by omega)).2
    simp only [dotN, dotZ, h1, w64]
    rw [wrap_in (n := a[k]! * b[k]!) (by omega) (by omega), wrap_in (by omega) (by omega)]
    refine ⟨rfl, ?_, ?_⟩ <;> omega

theorem dotZ_linear {a u v s : List Int} : ∀ k : Nat, (∀ i, i < k → s[i]! = u[i]! - 2 * v[i]!) → dotZ a s k = dotZ a u k - 2 * dotZ a v k
  | 0, _ => by simp [dotZ]
  | k + 1, h => by
    simp only [dotZ, dotZ_linear k (fun i hi => h i (by omega)), h k (by omega), Int.mul_sub]
    have : a[k]! * (2 * v[k]!) = 2 * (a[k]! * v[k]!) := by rw [← Int.mul_assoc, Int.mul_comm a[k]! 2, Int.mul_assoc]
    omega
end Go.AM
