/-
  Walks: Sort and Compact, at any list that the call owns.
-/
import Derived.Test.YthmjnbmooedfjaaWE
import Derived.Test.YthmjnbmooedfjaaAmZ
namespace Go.Proofs
open Go.Shelf
def Try.laysSort_ren : Go.Shelf.Ren := ⟨fun | 189 => 52 | 125 => 64 | 257 => 63 | 128 => 80 | 129 => 81 | 294 => 71 | 295 => 72 | 296 => 73 | 297 => 74 | 298 => 75 | 299 => 76 | 216 => 77 | 300 => 78 | 301 => 79 | 328 => 84 | 329 => 85 | 330 => 86 | 331 => 87 | 332 => 88 | 215 => 89 | 343 => 94 | n => n, fun | 28 => 33 | 3 => 3 | 46 => 96 | 0 => 0 | 51 => 104 | 53 => 107 | 4 => 4 | 183 => 115 | 182 => 114 | 131 => 120 | 5 => 5 | 9 => 9 | 218 => 125 | 222 => 129 | 228 => 135 | 229 => 136 | n => n, fun | n => n⟩
theorem Try.laysSort : Go.Proofs.Lays.n189 Try.prog Try.laysSort_ren where
  mixed := by kernel_rfl
  f125 := Try.func64.trans (congrArg some (by kernel_rfl))
  f128 := Try.func80.trans (congrArg some (by kernel_rfl))
  f129 := Try.func81.trans (congrArg some (by kernel_rfl))
  f189 := Try.func52.trans (congrArg some (by kernel_rfl))
  f215 := Try.func89.trans (congrArg some (by kernel_rfl))
  f216 := Try.func77.trans (congrArg some (by kernel_rfl))
  f257 := Try.func63.trans (congrArg some (by kernel_rfl))
  f294 := Try.func71.trans (congrArg some (by kernel_rfl))
  f295 := Try.func72.trans (congrArg some (by kernel_rfl))
  f296 := Try.func73.trans (congrArg some (by kernel_rfl))
  f297 := Try.func74.trans (congrArg some (by kernel_rfl))
  f298 := Try.func75.trans (congrArg some (by kernel_rfl))
  f299 := Try.func76.trans (congrArg some (by kernel_rfl))
  f300 := Try.func78.trans (congrArg some (by kernel_rfl))
  f301 := Try.func79.trans (congrArg some (by kernel_rfl))
  f328 := Try.func84.trans (congrArg some (by kernel_rfl))
  f329 := Try.func85.trans (congrArg some (by kernel_rfl))
  f330 := Try.func86.trans (congrArg some (by kernel_rfl))
  f331 := Try.func87.trans (congrArg some (by kernel_rfl))
  f332 := Try.func88.trans (congrArg some (by kernel_rfl))
  f343 := Try.func94.trans (congrArg some (by kernel_rfl))
  t0 := Try.underlying0
  a0 := Try.isAgg0
  z0 := Try.sizeOf0
  v0 := Try.zeroValue0
  t3 := Try.underlying3
  a3 := Try.isAgg3
  z3 := Try.sizeOf3
  v3 := Try.zeroValue3
  t4 := Try.underlying4
  a4 := Try.isAgg4
  z4 := Try.sizeOf4
  v4 := Try.zeroValue4
  t5 := Try.underlying5
  a5 := Try.isAgg5
  z5 := Try.sizeOf5
  v5 := Try.zeroValue5
  t9 := Try.underlying9
  a9 := Try.isAgg9
  z9 := Try.sizeOf9
  v9 := Try.zeroValue9
  t28 := Try.underlying33
  a28 := Try.isAgg33
  z28 := Try.sizeOf33
  v28 := Try.zeroValue33
  t46 := Try.underlying96
  a46 := Try.isAgg96
  z46 := Try.sizeOf96
  v46 := Try.zeroValue96
  t51 := Try.underlying104
  a51 := Try.isAgg104
  z51 := Try.sizeOf104
  v51 := Try.zeroValue104
  t53 := Try.underlying107
  a53 := Try.isAgg107
  z53 := Try.sizeOf107
  v53 := Try.zeroValue107
  t131 := Try.underlying120
  a131 := Try.isAgg120
  z131 := Try.sizeOf120
  v131 := Try.zeroValue120
  t182 := Try.underlying114
  a182 := Try.isAgg114
  z182 := Try.sizeOf114
  v182 := Try.zeroValue114
  t183 := Try.underlying115
  a183 := Try.isAgg115
  z183 := Try.sizeOf115
  v183 := Try.zeroValue115
  t218 := Try.underlying125
  a218 := Try.isAgg125
  z218 := Try.sizeOf125
  v218 := Try.zeroValue125
  t222 := Try.underlying129
  a222 := Try.isAgg129
  z222 := Try.sizeOf129
  v222 := Try.zeroValue129
  t228 := Try.underlying135
  a228 := Try.isAgg135
  z228 := Try.sizeOf135
  v228 := Try.zeroValue135
  t229 := Try.underlying136
  a229 := Try.isAgg136
  z229 := Try.sizeOf136
  v229 := Try.zeroValue136
end Go.Proofs
namespace Go.AM
open Go Go.Proofs Go.RowKit

theorem ai_vi (l : List Int) : ai l = l.map vi := rfl

theorem callable63 : Callable Try.prog 63 := ⟨_, Try.func63, by kernel_rfl, by kernel_rfl⟩
theorem callable64 : Callable Try.prog 64 := ⟨_, Try.func64, by kernel_rfl, by kernel_rfl⟩

theorem con_len2 (n : Nat) (hn : n < 4611686018427387904) : Con Try.prog 64 [.sc (.int .u64 n)] [] fun r _ => r = vi (Go.Sort.bitsLen n : Nat) := con_bitsLen Try.laysSort callable64 n hn
theorem conw_pdq2 (l : List Int) (h0 : 0 < l.length) (hl : l.length < 4611686018427387904) :
    ConW Try.prog 63 [.sl 2 1 (l.map vi), vi 0, vi l.length, vi (Go.Sort.bitsLen l.length : Nat)] fun r ys => r = .tup [] ∧ ys = [.sl 2 1 ((sortI l).map vi), vi 0, vi l.length, vi (Go.Sort.bitsLen l.length : Nat)] := conw_pdq Try.laysSort callable63 l h0 hl

set_option maxRecDepth 100000 in
theorem conw_sort52 (l : List Int) (h0 : 0 < l.length) (hl : l.length < 4611686018427387904) :
    ConW Try.prog 52 [.sl 2 1 (l.map vi)] fun r ys => r = .tup [] ∧ ys = [.sl 2 1 ((sortI l).map vi)] := by
  refine ConW.intro Try.func52 rfl Try.ntmps52 Try.results52 (by kernel_rfl) (by simp) ?_
  have w2 : IntKind.u64.wrap (l.length : Int) = l.length := by rw [IntKind.wrap_u64]; omega
  simp only [go_sem, w2]
  refine CallU.free (con_len2 l.length hl) (by simp only [go_sem]) (by simp only [go_sem]) ?_
  rintro r bx rfl
  simp only [go_sem]
  refine CallU.back (conw_pdq2 l h0 hl) (by simp only [go_sem]) (by simp only [go_sem]) ?_
  rintro r ys ⟨rfl, rfl⟩
  simp only [go_sem]
  simpa using h0
set_option maxRecDepth 100000 in
theorem conw_sort54 (l : List Int) (h0 : 0 < l.length) (hl : l.length < 4611686018427387904) :
    ConW Try.prog 54 [.sl 2 1 (l.map vi)] fun r ys => r = .tup [] ∧ ys = [.sl 2 1 ((sortI l).map vi)] := by
  refine ConW.intro Try.func54 rfl Try.ntmps54 Try.results54 (by kernel_rfl) (by simp) ?_
  have w2 : IntKind.u64.wrap (l.length : Int) = l.length := by rw [IntKind.wrap_u64]; omega
  simp only [go_sem, w2]
  refine CallU.free (con_len2 l.length hl) (by simp only [go_sem]) (by simp only [go_sem]) ?_
  rintro r bx rfl
  simp only [go_sem]
  refine CallU.back (conw_pdq2 l h0 hl) (by simp only [go_sem]) (by simp only [go_sem]) ?_
  rintro r ys ⟨rfl, rfl⟩
  simp only [go_sem]
  simpa using h0
end Go.AM
