/- CrC -/
import Derived.Test.YtapjfgddbfneaaaGreatg9
namespace Go.AM
open Go Go.Proofs Go.RowKit
set_option maxRecDepth 100000
set_option maxHeartbeats 8000000
theorem con_rrightP (m : MD) (r : RD) (h : PreM m) (hr : r ∈ m.rules) : Con Tryz.prog 98 [vM m, vRule r] [] fun x _ => x = vb true := by
 refine Con.intro Tryz.func98 rfl Tryz.ntmps98 Tryz.results98 (by kernel_rfl) (by simp) 0 (by simp) ?_
 have h1 := h.states; have h2 := h.places
 obtain ⟨hb1, hb2⟩ := h.rules r hr
 obtain ⟨nm, s, d, nd, gv, mv, rfl⟩ : ∃ nm s d nd gv mv, r = bareR nm s d nd gv mv := ⟨_, _, _, _, _, _, bare_of hb2⟩
 unfold ruleB changesB movesB indexB smallB at hb1
 simp only [Bool.and_eq_true, decide_eq_true_eq, List.all_eq_true, Bool.or_eq_true] at hb1
 obtain ⟨⟨⟨⟨d1, d2⟩, ⟨s1, s2⟩⟩, ⟨⟨⟨n1, g1⟩, n2⟩, g2⟩⟩, mv1⟩ := hb1
 have ws : IntKind.i64.wrap ((m.states.length : Int) - 1) = (m.states.length : Int) - 1 := wrap_in (by omega) (by omega)
 have wp : IntKind.i64.wrap ((m.places.length : Int) - 1) = (m.places.length : Int) - 1 := wrap_in (by omega) (by omega)
 have b1 := con_rbetween s 0 ((m.states.length : Int) - 1)
 have b2 := con_rbetween d 0 ((m.states.length : Int) - 1)
 rw [between_true (by omega) (by omega)] at b1 b2
 have l1 := con_rlist nd m.places.length 0 16 n1 (by omega) n2
 have l2 := con_rlist gv m.places.length 0 16 g1 (by omega) g2
 unfold vM cM
 rw [h.kind]
 simp only [go_sem, vss, List.length_map, ws]
 refine CallU.free b1 (by simp only [go_sem]) (by simp only [go_sem]) ?_
 rintro x bx rfl
 simp only [go_sem, List.length_map, ws]
 refine CallU.free b2 (by simp only [go_sem]) (by simp only [go_sem]) ?_
 rintro x bx rfl
 simp only [go_sem, List.length_map]
 refine CallU.free l1 (by simp only [go_sem]) (by simp only [go_sem]) ?_
 rintro x bx rfl
 simp only [go_sem, List.length_map]
 refine CallU.free l2 (by simp only [go_sem]) (by simp only [go_sem]) ?_
 rintro x bx rfl
 by_cases hm : (0 : Int) < mv.length
 ·have hml : mv.length = m.places.length /\ ∀ x ∈ mv, betweenB x (-1) ((m.places.length : Int) - 1) = true := by
   rcases mv1 with e | e
   ·rw [beq_iff_eq] at e; omega
   ·exact e
  have l3 := con_rlist mv m.places.length (-1) ((m.places.length : Int) - 1) hml.1 (by omega) hml.2
  simp only [go_sem, List.length_map, hm, wp]
  refine CallU.free l3 (by simp only [go_sem]) (by simp only [go_sem]) ?_
  rintro x bx rfl
  simp only [go_sem, List.length_nil]
 ·simp only [go_sem, List.length_map, hm, List.length_nil]
theorem con_rright (m : MD) (r : RD) (h : GoodM m) (hr : r ∈ m.rules) : Con Tryz.prog 98 [vM m, vRule r] [] fun x _ => x = vb true :=
 con_rrightP m r h.pre hr
end Go.AM
