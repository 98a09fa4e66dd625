/-
  Walks: the dice.
-/
import Derived.Test.YthmjnbmooedfjaaTy
namespace Go.AM
open Go Go.Proofs Go.RowKit
theorem wrap_in {n : Int} (h1 : -9223372036854775808 ≤ n) (h2 : n ≤ 9223372036854775807) : IntKind.i64.wrap n = n := by rw [IntKind.wrap_i64]; omega

def vi (x : Int) : AV := .sc (.int .i64 x)
def vu (x : Int) : AV := .sc (.int .u8 x)
def vs (t : Nat) (l : List Int) : AV := .sl t 1 (l.map vi)
attribute [go_sem] vi vu vs
theorem getv {l : List Int} {i : Nat} (h : i < l.length) : (l.map vi)[i]? = some (.sc (.int .i64 l[i]!)) := by simp [vi, h]
theorem getu {l : List Int} {i : Nat} (h : i < l.length) : (l.map vu)[i]? = some (.sc (.int .u8 l[i]!)) := by simp [vu, h]

/-- the dice, as they lie in memory -/
def diceA (l : List Int) (at_ : Nat) : List AV := [.sl 0 1 (l.map vu), .sc (.int .i64 at_)]
attribute [go_sem] diceA
/-- seeds -/
def Seeds (l : List Int) : Prop := l.length ≤ 200 ∧ ∀ x ∈ l, 0 ≤ x ∧ x < 256

set_option maxRecDepth 100000 in
theorem con_new (l : List Int) (hl : l.length ≤ 9223372036854775807) : Con Try.prog 10 [.sl 0 1 (l.map vu)] [] fun r b => r = .pb 0 0 ∧ b = [diceA (l.take 200) 0] := by
  refine Con.intro Try.func10 rfl Try.ntmps10 Try.results10 (by kernel_rfl) (by simp) 1 (by simp) ?_
  by_cases h : (200 : Int) < l.length
  · have h2 : 200 ≤ l.length := by omega
    simp only [go_sem, h, h2]
    simp [List.map_take]
  · have e : l.take 200 = l := List.take_of_length_le (by omega)
    simp only [go_sem, h, e]

set_option maxRecDepth 100000 in
theorem con_pick (l : List Int) (at_ : Nat) (n : Int) (hs : Seeds l) (ha : at_ ≤ l.length) (hn : 1 ≤ n) : Con Try.prog 18 [.pb 0 0, vi n] [diceA l at_]
    fun r b => ∃ v at', r = vi v ∧ 0 ≤ v ∧ v < n ∧ at' ≤ l.length ∧ b = [diceA l at'] := by
  refine Con.intro Try.func18 rfl Try.ntmps18 Try.results18 (by kernel_rfl) (by simp) 1 (by simp) ?_
  have hl := hs.1
  simp only [go_sem]
  refine DrawK.walk 9 mixed (by kernel_rfl) ?_
  by_cases hh : l.length ≤ at_
  · simp only [go_sem, hh]
    exact ⟨0, at_, rfl, by omega, by omega, ha, rfl⟩
  · have h : at_ < l.length := by omega
    have hg := getu h
    have hw : IntKind.i64.wrap (at_ + 1) = at_ + 1 := wrap_in (by omega) (by omega)
    have hw2 : IntKind.i64.wrap ((at_ : Int) + 1 - 1) = at_ := by rw [wrap_in (by omega) (by omega)]; omega
    have hx := hs.2 l[at_]! (by simp [h])
    have hw3 : IntKind.i64.wrap l[at_]! = l[at_]! := wrap_in (by omega) (by omega)
    simp only [go_sem, hh, hw]
    refine DrawK.walk 14 mixed (by kernel_rfl) ?_
    simp only [go_sem, h, hg, hw2, hw3]
    refine ⟨by omega, _, at_ + 1, rfl, Int.tmod_nonneg _ hx.1, ?_, by omega, rfl⟩
    rw [Int.tmod_eq_emod_of_nonneg hx.1]
    exact Int.emod_lt_of_pos _ (by omega)
end Go.AM
