/-
  Walks: Sort and Compact, at any list that the call owns.
-/
import Derived.Test.YthmjnbmooedfjaaWE
import Derived.Test.YthmjnbmooedfjaaAmZ
import Derived.Shelf.Lay
namespace Go.Proofs
open Go.Shelf
shelf_lay Lays.n189 Nm 189 at Try as Try.laysSort
end Go.Proofs
namespace Go.AM
open Go Go.Proofs Go.RowKit

theorem ai_vi (l : List Int) : ai l = l.map vi := rfl

theorem callable63 : Callable Try.prog 63 := ⟨_, Try.func63, by kernel_rfl, by kernel_rfl⟩
theorem callable64 : Callable Try.prog 64 := ⟨_, Try.func64, by kernel_rfl, by kernel_rfl⟩

theorem con_len2 (n : Nat) (hn : n < 4611686018427387904) : Con Try.prog 64 [.sc (.int .u64 n)] [] fun r _ => r = vi (Go.Sort.bitsLen n : Nat) := con_bitsLen Try.laysSort callable64 n hn
theorem conw_pdq2 (l : List Int) (h0 : 0 < l.length) (hl : l.length < 4611686018427387904) :
    ConW Try.prog 63 [.sl 2 1 (l.map vi), vi 0, vi l.length, vi (Go.Sort.bitsLen l.length : Nat)] fun r ys => r = .tup [] ∧ ys = [.sl 2 1 ((sortI l).map vi), vi 0, vi l.length, vi (Go.Sort.bitsLen l.length : Nat)] := conw_pdq Try.laysSort callable63 l h0 hl

set_option maxRecDepth 100000 in
theorem conw_sort52 (l : List Int) (h0 : 0 < l.length) (hl : l.length < 4611686018427387904) :
    ConW Try.prog 52 [.sl 2 1 (l.map vi)] fun r ys => r = .tup [] ∧ ys = [.sl 2 1 ((sortI l).map vi)] := by
  refine ConW.intro Try.func52 rfl Try.ntmps52 Try.results52 (by kernel_rfl) (by simp) ?_
  have w2 : IntKind.u64.wrap (l.length : Int) = l.length := by rw [IntKind.wrap_u64]; omega
  simp only [go_sem, w2]
  refine CallU.free (con_len2 l.length hl) (by simp only [go_sem]) (by simp only [go_sem]) ?_
  rintro r bx rfl
  simp only [go_sem]
  refine CallU.back (conw_pdq2 l h0 hl) (by simp only [go_sem]) (by simp only [go_sem]) ?_
  rintro r ys ⟨rfl, rfl⟩
  simp only [go_sem]
  simpa using h0
set_option maxRecDepth 100000 in
theorem conw_sort54 (l : List Int) (h0 : 0 < l.length) (hl : l.length < 4611686018427387904) :
    ConW Try.prog 54 [.sl 2 1 (l.map vi)] fun r ys => r = .tup [] ∧ ys = [.sl 2 1 ((sortI l).map vi)] := by
  refine ConW.intro Try.func54 rfl Try.ntmps54 Try.results54 (by kernel_rfl) (by simp) ?_
  have w2 : IntKind.u64.wrap (l.length : Int) = l.length := by rw [IntKind.wrap_u64]; omega
  simp only [go_sem, w2]
  refine CallU.free (con_len2 l.length hl) (by simp only [go_sem]) (by simp only [go_sem]) ?_
  rintro r bx rfl
  simp only [go_sem]
  refine CallU.back (conw_pdq2 l h0 hl) (by simp only [go_sem]) (by simp only [go_sem]) ?_
  rintro r ys ⟨rfl, rfl⟩
  simp only [go_sem]
  simpa using h0
end Go.AM
