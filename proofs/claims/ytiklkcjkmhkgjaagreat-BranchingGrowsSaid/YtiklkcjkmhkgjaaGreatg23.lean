/- GN6 GO -/
import Derived.Test.YtiklkcjkmhkgjaaGreatg18
import Derived.Test.YtiklkcjkmhkgjaaGreatg19
import Derived.Test.YtiklkcjkmhkgjaaGreatg20
import Derived.Test.YtiklkcjkmhkgjaaGreatg21
import Derived.Test.YtiklkcjkmhkgjaaGreatg22
namespace Go.AM
open Go Go.Proofs Go.RowKit
set_option maxRecDepth 100000
set_option maxHeartbeats 8000000
theorem con_rright6 (m : MD) (r : RD) (h : RightM m) (hr : LenR r) (hk : m.kind = 6) : Con Tryz.prog 66 [vM m, vRule r] [] fun x _ => x = vb (betweenB r.src (-1) ((m.states.length : Int) - 1) && (betweenB r.dst 0 ((m.states.length : Int) - 1) && (listB r.need m.places.length 0 16 && (listB r.give m.places.length 0 16 && (z3 r && (z4 r && (z5 r && (z6 r && (q7 m r))))))))) := by
 refine Con.intro Tryz.func66 rfl Tryz.ntmps66 Tryz.results66 (by kernel_rfl) (by simp) 0 (by simp) ?_
 have h1 := h.states; have h2 := h.places; have h3 := h.letters
 have ws : IntKind.i64.wrap ((m.states.length : Int) - 1) = ((m.states.length : Int) - 1) := wrap_in (by omega) (by omega)
 have wp : IntKind.i64.wrap ((m.places.length : Int) - 1) = ((m.places.length : Int) - 1) := wrap_in (by omega) (by omega)
 have wl : IntKind.i64.wrap ((m.letters.length : Int) - 1) = ((m.letters.length : Int) - 1) := wrap_in (by omega) (by omega)
 have hp := hr.path; have hn := hr.next
 have wn : IntKind.i64.wrap ((r.path.length : Int) + (r.next.length : Int)) = (r.path.length : Int) + (r.next.length : Int) := wrap_in (by omega) (by omega)
 simp only [go_sem, vM, cM, vss, hk, List.length_map, ws]
 have cc := con_rbetween r.src (-1) ((m.states.length : Int) - 1)
 refine CallU.free cc (by simp only [go_sem]) (by simp only [go_sem]) ?_
 rintro x bx rfl
 cases betweenB r.src (-1) ((m.states.length : Int) - 1)
 ·rw [Bool.false_and]; simp only [go_sem]
 rw [Bool.true_and]
 simp only [go_sem, List.length_map, ws]
 have cc := con_rbetween r.dst 0 ((m.states.length : Int) - 1)
 refine CallU.free cc (by simp only [go_sem]) (by simp only [go_sem]) ?_
 rintro x bx rfl
 cases betweenB r.dst 0 ((m.states.length : Int) - 1)
 ·rw [Bool.false_and]; simp only [go_sem]
 rw [Bool.true_and]
 simp only [go_sem, List.length_map]
 have cc := con_rlistG r.need m.places.length 0 16 hr.len.need
 refine CallU.free cc (by simp only [go_sem]) (by simp only [go_sem]) ?_
 rintro x bx rfl
 cases listB r.need m.places.length 0 16
 ·rw [Bool.false_and]; simp only [go_sem]
 rw [Bool.true_and]
 simp only [go_sem, List.length_map]
 have cc := con_rlistG r.give m.places.length 0 16 hr.len.give
 refine CallU.free cc (by simp only [go_sem]) (by simp only [go_sem]) ?_
 rintro x bx rfl
 cases listB r.give m.places.length 0 16
 ·rw [Bool.false_and]; simp only [go_sem]
 rw [Bool.true_and]
 simp only [go_sem, List.length_map]
 cases hzz3 : z3 r
 ·rw [Bool.false_and]
  have a1 := z3_false hzz3
  simp only [go_sem, a1]
 rw [Bool.true_and]
 have z31 := z3_true hzz3
 simp only [go_sem, z31]
 cases hzz4 : z4 r
 ·rw [Bool.false_and]
  rcases z4_false hzz4 with a1 | ⟨b1, a2⟩ | ⟨b1, b2, a3⟩
  ·simp only [go_sem, a1]
  ·simp only [go_sem, b1, a2]
  ·simp only [go_sem, b1, b2, a3]
 rw [Bool.true_and]
 obtain ⟨z41, z42, z43⟩ := z4_true hzz4
 simp only [go_sem, List.length_map, z41, z42, z43]
 cases hzz5 : z5 r
 ·rw [Bool.false_and]
  rcases z5_false hzz5 with a1 | ⟨b1, a2⟩
  ·simp only [go_sem, a1]
  ·simp only [go_sem, List.length_map, b1, a2]
 rw [Bool.true_and]
 obtain ⟨z51, z52⟩ := z5_true hzz5
 simp only [go_sem, List.length_map, z51, z52]
 cases hzz6 : z6 r
 ·rw [Bool.false_and]
  rcases z6_false hzz6 with a1 | ⟨b1, a2⟩
  ·simp only [go_sem, a1]
  ·simp only [go_sem, List.length_map, b1, a2]
 rw [Bool.true_and]
 obtain ⟨z61, z62⟩ := z6_true hzz6
 simp only [go_sem, List.length_map, z61, z62]
 unfold q7
 cases hs : (r.src == -1)
 ·have hs2 : ¬ r.src = -1 := beq_eq_false_iff_ne.1 hs
  rw [if_neg hs2]
  simp only [go_sem, List.length_map, ws]
  have cc := con_rbetween r.second (-1) ((m.states.length : Int) - 1)
  refine CallU.free cc (by simp only [go_sem]) (by simp only [go_sem]) ?_
  rintro x bx rfl
  simp only [go_sem]
 ·have hs2 : r.src = -1 := beq_iff_eq.1 hs
  rw [if_pos hs2]
  cases h2 : (r.second == -1)
  ·rw [Bool.false_and]; simp only [go_sem, h2]
  rw [Bool.true_and]
  simp only [go_sem, h2]
  have cc := con_rzero r.need hr.len.need
  refine CallU.free cc (by simp only [go_sem]) (by simp only [go_sem]) ?_
  rintro x bx rfl
  simp only [go_sem]
theorem nilB {α : Type} [BEq α] (l : List α) : (l == []) = (l.length == 0) := by cases l <;> rfl
theorem list_small (l : List Int) (n : Nat) : listB l n 0 16 = (smallB l && decide (l.length = n)) := by
 unfold listB smallB
 congr 1
 rw [Bool.eq_iff_iff, beq_iff_eq, decide_eq_true_eq]
 omega
theorem same_only6 (r : RD) : sameB r (onlyR 6 r) = (z3 r && z4 r && z5 r && z6 r) := by
 unfold sameB onlyR z3 z4 z5 z6
 rw [if_neg (by omega), if_neg (by omega), if_neg (by omega), if_neg (by omega)]
 simp only [beq_self_eq_true, Bool.true_and, Bool.and_true, nilB]
 ac_rfl
theorem branch_eq {ns : Nat} {r : RD} {m : MD} (hm : m.states.length = ns) : (betweenB r.src (-1) ((ns : Int) - 1) && q7 m r) = ((indexB r.src ns || r.src == -1) && ((r.second == -1 || indexB r.second ns) && (decide (0 <= r.src) || (r.second == -1 && r.need.all fun x => x == 0)))) := by
 have e0 : (fun x => betweenB x 0 0) = fun x : Int => x == 0 := funext fun x => between_zero x
 unfold q7
 rw [hm, e0]
 by_cases h : r.src = -1
 ·rw [if_pos h, h]
  have e1 : decide ((0 : Int) <= -1) = false := by decide
  have e2 : betweenB (-1) (-1) ((ns : Int) - 1) = true := between_true (by omega) (by omega)
  have e3 : ((-1 : Int) == -1) = true := by decide
  rw [e1, e2, e3, Bool.or_true, Bool.true_and, Bool.true_and, Bool.false_or]
  cases h2 : r.second == -1
  ·rw [Bool.false_and, Bool.and_false]
  ·rw [Bool.true_or, Bool.true_and, Bool.true_and]
 ·rw [if_neg h, beq_eq_false_iff_ne.2 h, Bool.or_false]
  unfold betweenB indexB
  rw [Bool.eq_iff_iff]
  simp only [Bool.and_eq_true, Bool.or_eq_true, decide_eq_true_eq, beq_iff_eq]
  constructor
  ·rintro ⟨h1, h2⟩
   exact ⟨by omega, by omega, .inl (by omega)⟩
  ·rintro ⟨h1, h2, -⟩
   omega
theorem Con.toB {f : FuncId} {args : List AV} {b b' : Bool} (h : Con Tryz.prog f args [] fun x _ => x = vb b) (e : b = b') : Con Tryz.prog f args [] fun x _ => x = vb b' := e ▸ h
end Go.AM
