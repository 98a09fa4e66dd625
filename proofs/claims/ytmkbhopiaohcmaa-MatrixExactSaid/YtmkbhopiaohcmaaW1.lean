/-
  Walks: the plain functions.
-/
import Derived.Test.YtmkbhopiaohcmaaTy
namespace Go.AM
open Go Go.Proofs Go.RowKit
theorem wrap_in {n : Int} (h1 : -9223372036854775808 ≤ n) (h2 : n ≤ 9223372036854775807) : IntKind.i64.wrap n = n := by rw [IntKind.wrap_i64]; omega

def vi (x : Int) : AV := .sc (.int .i64 x)
def vs (t : Nat) (l : List Int) : AV := .sl t 1 (l.map vi)
def vm (t : Nat) (m : List (List Int)) : AV := .sl t 1 (m.map (vs 0))
attribute [go_sem] vi vs vm
theorem getv {l : List Int} {i : Nat} (h : i < l.length) : (l.map vi)[i]? = some (.sc (.int .i64 l[i]!)) := by simp [vi, h]
theorem getm {l : List (List Int)} {i : Nat} (h : i < l.length) : (l.map (vs 0))[i]? = some (.sl 0 1 (l[i]!.map vi)) := by simp [vs, h]

def w64 (x : Int) : Int := IntKind.i64.wrap x

set_option maxRecDepth 100000 in
theorem con_amount (x : Int) : Con Try.prog 35 [vi x] [] fun r _ => r = vi (max x (w64 (-x))) := by
  refine Con.intro Try.func35 rfl Try.ntmps35 Try.results35 (by kernel_rfl) (by simp) 0 (by simp) ?_
  simp only [go_sem, w64, Int.zero_sub]

set_option maxRecDepth 100000 in
theorem con_few (l : List Int) (t : Nat) (ht : t < 2) : Con Try.prog 9 [vs t l] [] fun r _ => r = .sc (.bool (decide (l.length ≤ 400))) := by
  refine Con.intro Try.func9 rfl Try.ntmps9 Try.results9 (by kernel_rfl) (by simp) 0 (by simp) ?_
  simp only [go_sem]

def lawBad (x : Int) : Bool := decide (x < -16) || decide (16 < x)
set_option maxRecDepth 100000 in
theorem con_check1 (x : Int) : Con Try.prog 42 [vi x] [] fun r _ => r = .sc (.bool (lawBad x)) := by
  refine Con.intro Try.func42 rfl Try.ntmps42 Try.results42 (by kernel_rfl) (by simp) 0 (by simp) ?_
  by_cases h : x < -16 <;> simp only [go_sem, h, lawBad]
def lawFar (x : Int) : Bool := decide (x < -1048576) || decide (1048576 < x)
set_option maxRecDepth 100000 in
theorem con_apply1 (x : Int) : Con Try.prog 39 [vi x] [] fun r _ => r = .sc (.bool (lawFar x)) := by
  refine Con.intro Try.func39 rfl Try.ntmps39 Try.results39 (by kernel_rfl) (by simp) 0 (by simp) ?_
  by_cases h : x < -1048576 <;> simp only [go_sem, h, lawFar]
end Go.AM
