/- GN1 -/
import Derived.Test.YtpmodjodfimejaaGreatg12
namespace Go.AM
open Go Go.Proofs Go.RowKit
set_option maxRecDepth 100000
set_option maxHeartbeats 8000000
theorem con_rright1 (m : MD) (r : RD) (h : RightM m) (hr : LenR r) (hk : m.kind = 1) : Con Tryz.prog 76 [vM m, vRule r] [] fun x _ => x = vb (betweenB r.src 0 ((m.states.length : Int) - 1) && (betweenB r.dst 0 ((m.states.length : Int) - 1) && (listB r.need m.places.length 0 16 && (listB r.give m.places.length 0 16 && (((r.move.length == 0) || listB r.move m.places.length (-1) ((m.places.length : Int) - 1)) && (z4 r && (z5 r && (z6 r && ((r.second == 0)))))))))) := by
 refine Con.intro Tryz.func76 rfl Tryz.ntmps76 Tryz.results76 (by kernel_rfl) (by simp) 0 (by simp) ?_
 have h1 := h.states; have h2 := h.places; have h3 := h.letters
 have ws : IntKind.i64.wrap ((m.states.length : Int) - 1) = ((m.states.length : Int) - 1) := wrap_in (by omega) (by omega)
 have wp : IntKind.i64.wrap ((m.places.length : Int) - 1) = ((m.places.length : Int) - 1) := wrap_in (by omega) (by omega)
 have wl : IntKind.i64.wrap ((m.letters.length : Int) - 1) = ((m.letters.length : Int) - 1) := wrap_in (by omega) (by omega)
 have hp := hr.path; have hn := hr.next
 have wn : IntKind.i64.wrap ((r.path.length : Int) + (r.next.length : Int)) = (r.path.length : Int) + (r.next.length : Int) := wrap_in (by omega) (by omega)
 simp only [go_sem, vM, cM, vss, hk, List.length_map, ws]
 have cc := con_rbetween r.src 0 ((m.states.length : Int) - 1)
 refine CallU.free cc (by simp only [go_sem]) (by simp only [go_sem]) ?_
 rintro x bx rfl
 cases betweenB r.src 0 ((m.states.length : Int) - 1)
 ·rw [Bool.false_and]; simp only [go_sem]
 rw [Bool.true_and]
 simp only [go_sem, List.length_map, ws]
 have cc := con_rbetween r.dst 0 ((m.states.length : Int) - 1)
 refine CallU.free cc (by simp only [go_sem]) (by simp only [go_sem]) ?_
 rintro x bx rfl
 cases betweenB r.dst 0 ((m.states.length : Int) - 1)
 ·rw [Bool.false_and]; simp only [go_sem]
 rw [Bool.true_and]
 simp only [go_sem, List.length_map]
 have cc := con_rlistG r.need m.places.length 0 16 hr.len.need
 refine CallU.free cc (by simp only [go_sem]) (by simp only [go_sem]) ?_
 rintro x bx rfl
 cases listB r.need m.places.length 0 16
 ·rw [Bool.false_and]; simp only [go_sem]
 rw [Bool.true_and]
 simp only [go_sem, List.length_map]
 have cc := con_rlistG r.give m.places.length 0 16 hr.len.give
 refine CallU.free cc (by simp only [go_sem]) (by simp only [go_sem]) ?_
 rintro x bx rfl
 cases listB r.give m.places.length 0 16
 ·rw [Bool.false_and]; simp only [go_sem]
 rw [Bool.true_and]
 simp only [go_sem, List.length_map]
 by_cases hm : 0 < r.move.length
 ·have e3 : (r.move.length == 0) = false := beq_eq_false_iff_ne.2 (by omega)
  rw [e3, Bool.false_or]
  simp only [go_sem, List.length_map, wp, hm]
  have cc := con_rlistG r.move m.places.length (-1) ((m.places.length : Int) - 1) hr.len.move
  refine CallU.free cc (by simp only [go_sem]) (by simp only [go_sem]) ?_
  rintro x bx rfl
  cases listB r.move m.places.length (-1) ((m.places.length : Int) - 1)
  ·rw [Bool.false_and]; simp only [go_sem]
  rw [Bool.true_and]
  simp only [go_sem]
  cases hzz4 : z4 r
  ·rw [Bool.false_and]
   rcases z4_false hzz4 with a1 | ⟨b1, a2⟩ | ⟨b1, b2, a3⟩
   ·simp only [go_sem, a1]
   ·simp only [go_sem, b1, a2]
   ·simp only [go_sem, b1, b2, a3]
  rw [Bool.true_and]
  obtain ⟨z41, z42, z43⟩ := z4_true hzz4
  simp only [go_sem, List.length_map, z41, z42, z43]
  cases hzz5 : z5 r
  ·rw [Bool.false_and]
   rcases z5_false hzz5 with a1 | ⟨b1, a2⟩
   ·simp only [go_sem, a1]
   ·simp only [go_sem, List.length_map, b1, a2]
  rw [Bool.true_and]
  obtain ⟨z51, z52⟩ := z5_true hzz5
  simp only [go_sem, List.length_map, z51, z52]
  cases hzz6 : z6 r
  ·rw [Bool.false_and]
   rcases z6_false hzz6 with a1 | ⟨b1, a2⟩
   ·simp only [go_sem, a1]
   ·simp only [go_sem, List.length_map, b1, a2]
  rw [Bool.true_and]
  obtain ⟨z61, z62⟩ := z6_true hzz6
  simp only [go_sem, List.length_map, z61, z62]
 ·have e3 : (r.move.length == 0) = true := beq_iff_eq.2 (by omega)
  rw [e3, Bool.true_or, Bool.true_and]
  simp only [go_sem, hm]
  cases hzz4 : z4 r
  ·rw [Bool.false_and]
   rcases z4_false hzz4 with a1 | ⟨b1, a2⟩ | ⟨b1, b2, a3⟩
   ·simp only [go_sem, a1]
   ·simp only [go_sem, b1, a2]
   ·simp only [go_sem, b1, b2, a3]
  rw [Bool.true_and]
  obtain ⟨z41, z42, z43⟩ := z4_true hzz4
  simp only [go_sem, List.length_map, z41, z42, z43]
  cases hzz5 : z5 r
  ·rw [Bool.false_and]
   rcases z5_false hzz5 with a1 | ⟨b1, a2⟩
   ·simp only [go_sem, a1]
   ·simp only [go_sem, List.length_map, b1, a2]
  rw [Bool.true_and]
  obtain ⟨z51, z52⟩ := z5_true hzz5
  simp only [go_sem, List.length_map, z51, z52]
  cases hzz6 : z6 r
  ·rw [Bool.false_and]
   rcases z6_false hzz6 with a1 | ⟨b1, a2⟩
   ·simp only [go_sem, a1]
   ·simp only [go_sem, List.length_map, b1, a2]
  rw [Bool.true_and]
  obtain ⟨z61, z62⟩ := z6_true hzz6
  simp only [go_sem, List.length_map, z61, z62]
end Go.AM
