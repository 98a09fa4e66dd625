/-
 Walks: ref02.Drops (chapter 9).
-/
import Derived.Test.YtlcckmmibeddeaaX1
namespace Go.AM
open Go Go.Proofs Go.RowKit
set_option maxRecDepth 100000
theorem con_r02Valid (w : List Int) (hl : w.length <= 12) (hx : ∀ x ∈ w, 0 <= x /\ x < 2) : Con Try.prog 31 [vs 0 w] [] fun r _ => r = vb true := by
 refine Con.intro Try.func31 rfl Try.ntmps31 Try.results31 (by kernel_rfl) (by simp) 0 (by simp) ?_
 simp only [go_sem]
 refine LoopK.intro (fun i : Nat => ⟨25, [(0, vs 0 w), (3, vi i)], []⟩)
  (fun i => w.length - i) (fun i => i <= w.length) 0 (Nat.zero_le _) ?_ ?_
 ·simp only [go_sem]
 rintro i hi
 by_cases h : i < w.length
 case neg =>
  have h3 : (w.length : Int) <= 12 := by omega
  simp only [go_sem, h, h3, decide_true, List.length_map]
 have hg := getv h
 have hwi : IntKind.i64.wrap (i + 1) = i + 1 := wrap_in (by omega) (by omega)
 obtain ⟨k1, k2⟩ := hx _ (mem_bangI h)
 have e1 : ¬ w[i]! < 0 := by omega
 have e2 : ¬ 16 <= w[i]! := by omega
 simp only [go_sem, h, hg, e1, e2, hwi, List.length_map]
 refine roundK.intro (i + 1) (by omega) (by omega) ?_
 simp only [go_sem]
end Go.AM
