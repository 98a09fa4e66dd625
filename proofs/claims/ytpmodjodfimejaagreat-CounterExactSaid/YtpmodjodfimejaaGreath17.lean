/- GN4 GN5 -/
import Derived.Test.YtpmodjodfimejaaGreath14
namespace Go.AM
open Go Go.Proofs Go.RowKit
set_option maxRecDepth 100000
set_option maxHeartbeats 8000000
theorem con_rright4 (m : MD) (r : RD) (h : RightM m) (hr : LenR r) (hk : m.kind = 4) : Con Tryz.prog 76 [vM m, vRule r] [] fun x _ => x = vb (betweenB r.src 0 ((m.states.length : Int) - 1) && (betweenB r.dst 0 ((m.states.length : Int) - 1) && (z2 r && (z3 r && (z4 r && (fewB r.path m.levels ((m.letters.length : Int) - 1) && (fewB r.next m.levels ((m.letters.length : Int) - 1) && (!((r.path.length : Int) + (r.next.length : Int) == 0) && (z6 r && ((r.second == 0))))))))))) := by
 refine Con.intro Tryz.func76 rfl Tryz.ntmps76 Tryz.results76 (by kernel_rfl) (by simp) 0 (by simp) ?_
 have h1 := h.states; have h2 := h.places; have h3 := h.letters
 have ws : IntKind.i64.wrap ((m.states.length : Int) - 1) = ((m.states.length : Int) - 1) := wrap_in (by omega) (by omega)
 have wp : IntKind.i64.wrap ((m.places.length : Int) - 1) = ((m.places.length : Int) - 1) := wrap_in (by omega) (by omega)
 have wl : IntKind.i64.wrap ((m.letters.length : Int) - 1) = ((m.letters.length : Int) - 1) := wrap_in (by omega) (by omega)
 have hp := hr.path; have hn := hr.next
 have wn : IntKind.i64.wrap ((r.path.length : Int) + (r.next.length : Int)) = (r.path.length : Int) + (r.next.length : Int) := wrap_in (by omega) (by omega)
 simp only [go_sem, vM, cM, vss, hk, List.length_map, ws]
 have cc := con_rbetween r.src 0 ((m.states.length : Int) - 1)
 refine CallU.free cc (by simp only [go_sem]) (by simp only [go_sem]) ?_
 rintro x bx rfl
 cases betweenB r.src 0 ((m.states.length : Int) - 1)
 ·rw [Bool.false_and]; simp only [go_sem]
 rw [Bool.true_and]
 simp only [go_sem, List.length_map, ws]
 have cc := con_rbetween r.dst 0 ((m.states.length : Int) - 1)
 refine CallU.free cc (by simp only [go_sem]) (by simp only [go_sem]) ?_
 rintro x bx rfl
 cases betweenB r.dst 0 ((m.states.length : Int) - 1)
 ·rw [Bool.false_and]; simp only [go_sem]
 rw [Bool.true_and]
 simp only [go_sem, List.length_map]
 cases hzz2 : z2 r
 ·rw [Bool.false_and]
  rcases z2_false hzz2 with a1 | ⟨b1, a2⟩
  ·simp only [go_sem, a1]
  ·simp only [go_sem, List.length_map, b1, a2]
 rw [Bool.true_and]
 obtain ⟨z21, z22⟩ := z2_true hzz2
 simp only [go_sem, List.length_map, z21, z22]
 cases hzz3 : z3 r
 ·rw [Bool.false_and]
  have a1 := z3_false hzz3
  simp only [go_sem, a1]
 rw [Bool.true_and]
 have z31 := z3_true hzz3
 simp only [go_sem, z31]
 cases hzz4 : z4 r
 ·rw [Bool.false_and]
  rcases z4_false hzz4 with a1 | ⟨b1, a2⟩ | ⟨b1, b2, a3⟩
  ·simp only [go_sem, a1]
  ·simp only [go_sem, b1, a2]
  ·simp only [go_sem, b1, b2, a3]
 rw [Bool.true_and]
 obtain ⟨z41, z42, z43⟩ := z4_true hzz4
 simp only [go_sem, List.length_map, wl, z41, z42, z43]
 have cc := con_rfew r.path m.levels ((m.letters.length : Int) - 1) hr.len.path
 refine CallU.free cc (by simp only [go_sem]) (by simp only [go_sem]) ?_
 rintro x bx rfl
 cases fewB r.path m.levels ((m.letters.length : Int) - 1)
 ·rw [Bool.false_and]; simp only [go_sem]
 rw [Bool.true_and]
 simp only [go_sem, List.length_map, wl]
 have cc := con_rfew r.next m.levels ((m.letters.length : Int) - 1) hr.len.next
 refine CallU.free cc (by simp only [go_sem]) (by simp only [go_sem]) ?_
 rintro x bx rfl
 cases fewB r.next m.levels ((m.letters.length : Int) - 1)
 ·rw [Bool.false_and]; simp only [go_sem]
 rw [Bool.true_and]
 simp only [go_sem, List.length_map, wn]
 cases hq5 : ((r.path.length : Int) + (r.next.length : Int) == 0)
 case true => rw [Bool.not_true, Bool.false_and]; simp only [go_sem, wn]
 rw [Bool.not_false, Bool.true_and]
 simp only [go_sem, List.length_map, wn]
 cases hzz6 : z6 r
 ·rw [Bool.false_and]
  rcases z6_false hzz6 with a1 | ⟨b1, a2⟩
  ·simp only [go_sem, a1]
  ·simp only [go_sem, List.length_map, b1, a2]
 rw [Bool.true_and]
 obtain ⟨z61, z62⟩ := z6_true hzz6
 simp only [go_sem, List.length_map, z61, z62]
theorem con_rright5 (m : MD) (r : RD) (h : RightM m) (hr : LenR r) (hk : m.kind = 5) : Con Tryz.prog 76 [vM m, vRule r] [] fun x _ => x = vb (betweenB r.src 0 ((m.states.length : Int) - 1) && (betweenB r.dst 0 ((m.states.length : Int) - 1) && (z2 r && (z3 r && (z4 r && (z5 r && (agesB m.places.length m.age r && ((r.second == 0))))))))) := by
 refine Con.intro Tryz.func76 rfl Tryz.ntmps76 Tryz.results76 (by kernel_rfl) (by simp) 0 (by simp) ?_
 have h1 := h.states; have h2 := h.places; have h3 := h.letters
 have ws : IntKind.i64.wrap ((m.states.length : Int) - 1) = ((m.states.length : Int) - 1) := wrap_in (by omega) (by omega)
 have wp : IntKind.i64.wrap ((m.places.length : Int) - 1) = ((m.places.length : Int) - 1) := wrap_in (by omega) (by omega)
 have wl : IntKind.i64.wrap ((m.letters.length : Int) - 1) = ((m.letters.length : Int) - 1) := wrap_in (by omega) (by omega)
 have hp := hr.path; have hn := hr.next
 have wn : IntKind.i64.wrap ((r.path.length : Int) + (r.next.length : Int)) = (r.path.length : Int) + (r.next.length : Int) := wrap_in (by omega) (by omega)
 simp only [go_sem, vM, cM, vss, hk, List.length_map, ws]
 have cc := con_rbetween r.src 0 ((m.states.length : Int) - 1)
 refine CallU.free cc (by simp only [go_sem]) (by simp only [go_sem]) ?_
 rintro x bx rfl
 cases betweenB r.src 0 ((m.states.length : Int) - 1)
 ·rw [Bool.false_and]; simp only [go_sem]
 rw [Bool.true_and]
 simp only [go_sem, List.length_map, ws]
 have cc := con_rbetween r.dst 0 ((m.states.length : Int) - 1)
 refine CallU.free cc (by simp only [go_sem]) (by simp only [go_sem]) ?_
 rintro x bx rfl
 cases betweenB r.dst 0 ((m.states.length : Int) - 1)
 ·rw [Bool.false_and]; simp only [go_sem]
 rw [Bool.true_and]
 simp only [go_sem, List.length_map]
 cases hzz2 : z2 r
 ·rw [Bool.false_and]
  rcases z2_false hzz2 with a1 | ⟨b1, a2⟩
  ·simp only [go_sem, a1]
  ·simp only [go_sem, List.length_map, b1, a2]
 rw [Bool.true_and]
 obtain ⟨z21, z22⟩ := z2_true hzz2
 simp only [go_sem, List.length_map, z21, z22]
 cases hzz3 : z3 r
 ·rw [Bool.false_and]
  have a1 := z3_false hzz3
  simp only [go_sem, a1]
 rw [Bool.true_and]
 have z31 := z3_true hzz3
 simp only [go_sem, z31]
 cases hzz4 : z4 r
 ·rw [Bool.false_and]
  rcases z4_false hzz4 with a1 | ⟨b1, a2⟩ | ⟨b1, b2, a3⟩
  ·simp only [go_sem, a1]
  ·simp only [go_sem, b1, a2]
  ·simp only [go_sem, b1, b2, a3]
 rw [Bool.true_and]
 obtain ⟨z41, z42, z43⟩ := z4_true hzz4
 simp only [go_sem, List.length_map, z41, z42, z43]
 cases hzz5 : z5 r
 ·rw [Bool.false_and]
  rcases z5_false hzz5 with a1 | ⟨b1, a2⟩
  ·simp only [go_sem, a1]
  ·simp only [go_sem, List.length_map, b1, a2]
 rw [Bool.true_and]
 obtain ⟨z51, z52⟩ := z5_true hzz5
 simp only [go_sem, List.length_map, z51, z52]
 have cc := con_rtimed m r hr.len h.places (h.age hk)
 refine CallU.free cc (by simp only [go_sem]) (by simp only [go_sem, hk]) ?_
 rintro x bx rfl
 cases agesB m.places.length m.age r
 ·rw [Bool.false_and]; simp only [go_sem]
 rw [Bool.true_and]
 simp only [go_sem]
end Go.AM
