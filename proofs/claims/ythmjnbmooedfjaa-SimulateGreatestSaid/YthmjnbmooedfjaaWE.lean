/-
  Walks: Sort of short ascending lists.
-/
import Derived.Test.YthmjnbmooedfjaaWD
namespace Go.AM
open Go Go.Proofs Go.RowKit

set_option maxRecDepth 100000 in
theorem con_len (n : Nat) (hn : n ≤ 3) : Con Try.prog 64 [vq n] [] fun r _ => ∃ v, r = vi v := by
  refine Con.intro Try.func64 rfl Try.ntmps64 Try.results64 (by kernel_rfl) (by simp) 0 (by simp) ?_
  simp only [go_sem]
  refine CallU.free (con_len64 n hn) (by simp only [go_sem]) (by simp only [go_sem]) ?_
  rintro r bx ⟨v, rfl⟩
  simp only [go_sem]
  exact ⟨v, rfl⟩

set_option maxRecDepth 100000 in
theorem con_sort52 (l : List Int) (hl : l.length ≤ 3) (ha : Asc l) : Con Try.prog 52 [vs 0 l] [] fun r _ => r = .tup [] := by
  refine Con.intro Try.func52 rfl Try.ntmps52 Try.results52 (by kernel_rfl) (by simp) 0 (by simp) ?_
  have w2 : IntKind.u64.wrap (l.length : Int) = l.length := by rw [IntKind.wrap_u64]; omega
  simp only [go_sem, w2]
  refine CallU.free (con_len l.length hl) (by simp only [go_sem]) (by simp only [go_sem]) ?_
  rintro r bx ⟨v, rfl⟩
  simp only [go_sem]
  refine CallU.free (con_pdq l (by omega) ha v) (by simp only [go_sem]) (by simp only [go_sem]) ?_
  rintro r bx rfl
  simp only [go_sem]

set_option maxRecDepth 100000 in
theorem con_sort54 (l : List Int) (hl : l.length ≤ 3) (ha : Asc l) : Con Try.prog 54 [vs 0 l] [] fun r _ => r = .tup [] := by
  refine Con.intro Try.func54 rfl Try.ntmps54 Try.results54 (by kernel_rfl) (by simp) 0 (by simp) ?_
  have w2 : IntKind.u64.wrap (l.length : Int) = l.length := by rw [IntKind.wrap_u64]; omega
  simp only [go_sem, w2]
  refine CallU.free (con_len l.length hl) (by simp only [go_sem]) (by simp only [go_sem]) ?_
  rintro r bx ⟨v, rfl⟩
  simp only [go_sem]
  refine CallU.free (con_pdq l (by omega) ha v) (by simp only [go_sem]) (by simp only [go_sem]) ?_
  rintro r bx rfl
  simp only [go_sem]
end Go.AM
