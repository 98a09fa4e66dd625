/-
  Walks: Transpose.
-/
import Derived.Test.YtmkbhopiaohcmaaWJ
namespace Go.AM
open Go Go.Proofs Go.RowKit

/-- the columns as rows -/
def transF (m : List (List Int)) : List (List Int) := (List.range m[0]!.length).map fun j => m.map fun r => r[j]!
def transR (m : List (List Int)) : List (List Int) × Int := if checkF m ≠ 0 then ([], checkF m) else (transF m, 0)

set_option maxRecDepth 100000 in
set_option maxHeartbeats 1000000 in
theorem con_transpose (m : List (List Int)) (hm : Fits m) : Con Try.prog 17 [vm 0 m] [] fun r _ => r = vpairm (transR m) := by
  refine Con.intro Try.func17 rfl Try.ntmps17 Try.results17 (by kernel_rfl) (by simp) 0 (by simp) ?_
  simp only [go_sem]
  refine CallU.free (con_check m hm) (by simp only [go_sem]) (by simp only [go_sem]) ?_
  rintro r bx rfl
  by_cases h1 : checkF m ≠ 0
  · have hx : (checkF m != 0) = true := bne_iff_ne.2 h1
    simp only [go_sem, hx, vpairm, transR, h1]
  have h1' : checkF m = 0 := by omega
  have hV := check_ok h1'
  have hp := hV.pos
  have hg := getm hp
  have hl := hV.le
  have hc := hV.cle
  simp only [go_sem, h1', hp, hg]
  refine LoopK.intro (fun i : Nat => ⟨27, [(0, vm 0 m), (5, .sl 1600 1 (((transF m).take i).map (vs 0))), (15, vi m[0]!.length), (16, vi i)], []⟩)
    (fun i => m[0]!.length - i) (fun i => i ≤ m[0]!.length) 0 (by omega) ?_ ?_
  · simp only [go_sem]
  intro i hi
  by_cases h : i < m[0]!.length
  · have hwi : IntKind.i64.wrap (i + 1) = i + 1 := wrap_in (by omega) (by omega)
    simp only [go_sem, h]
    refine CallU.free (con_column m i (fun row hr => by rw [(hV.row row hr).1]; exact h) (by omega)) (by simp only [go_sem]) (by simp only [go_sem]) ?_
    rintro r bx rfl
    simp only [go_sem, hwi]
    refine ⟨by simp [roomFor, transF]; omega, roundK.intro (i + 1) (by omega) (by omega) ?_⟩
    simp only [go_sem]
    refine leV_sl ?_
    have e : (transF m).take (i + 1) = (transF m).take i ++ [m.map fun r => r[i]!] := by
      rw [List.take_add_one]
      simp only [transF, List.getElem?_map, List.getElem?_range h]; rfl
    rw [e, List.map_append]; simp only [List.map_cons, List.map_nil, vs, List.map_map]
  · have hil : i = m[0]!.length := by omega
    subst hil
    have e : (transF m).take m[0]!.length = transF m := List.take_of_length_le (by simp [transF])
    simp only [go_sem, h, e, vpairm, transR, h1']

end Go.AM
