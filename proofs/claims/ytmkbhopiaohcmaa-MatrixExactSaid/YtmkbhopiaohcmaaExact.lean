/-
  MatrixExact answers true for every list of integers, every two tables and every vector, and leaves them as they were: no condition.
-/
import Derived.Test.YtmkbhopiaohcmaaRows
import Derived.Test.YtmkbhopiaohcmaaWS
import Derived.Test.YtmkbhopiaohcmaaAmT
namespace Go.Proofs.Ytmkbhopiaohcmaa
open Go.ChangeShapes Go.WideShapes Go.ChangeAt Go.RowKit Go.AM

theorem own : ownKnob Try.prog.godebug = none := by kernel_rfl
theorem laidOut : laidOutB Try.prog = true := by kernel_rfl
theorem read2227 : ∀ t ∈ [22, 27, 27, 22], Try.prog.readableRec t = true ∧ t < Try.prog.types.size := by
  intro t ht
  simp only [List.mem_cons, List.not_mem_nil, or_false] at ht
  rcases ht with rfl | rfl | rfl | rfl
  · exact ⟨by kernel_rfl, of_decide_eq_true (by kernel_rfl)⟩
  · exact ⟨by kernel_rfl, of_decide_eq_true (by kernel_rfl)⟩
  · exact ⟨by kernel_rfl, of_decide_eq_true (by kernel_rfl)⟩
  · exact ⟨by kernel_rfl, of_decide_eq_true (by kernel_rfl)⟩

section
variable {H : Type} {enc : TypeId × Value → H} {P : Program} {w : World} {base : Nat} {spare : Nat → Bool} {held : Bool}
theorem row_len {α : Type} {t e : TypeId} {f : DataW H → α} {v : Value} {d : DataW H} {ps : List MemPlace} (ht : P.underlying t = some (.slice e)) (hc : P.cellsOf e = 1) (h1 : v.cells.toList = [v]) (h : DataW.Trod enc P w base spare held t v d ps) : (rowOf f d).length ≤ 9223372036854775807 := by
  obtain ⟨n, h⟩ := h
  rw [h1] at h
  rcases Go.Deep.open_slice1 ht hc h with ⟨_, h2⟩ | ⟨a, len, cap, m, n', V, D, Pl, _, _, hl, hm, _, h2, _⟩
  · simp only [Prod.mk.injEq] at h2
    obtain ⟨rfl, _⟩ := h2
    simp [rowOf]
  · simp only [Prod.mk.injEq] at h2
    obtain ⟨rfl, _⟩ := h2
    simp only [rowOf, List.length_map, List.length_range]
    unfold maxLen at hm; omega
end

set_option maxRecDepth 100000 in
theorem exact_lifted (os : Os) (started : os.Started) (H : Type) (enc : TypeId × Value → H) :
    ReturnsInHanded {} Try.checked os 6 .any (Rows.matrixExactSpec.pre6 enc Try.prog Try.f6 Rows.matrixExactRow.domain false) (Rows.matrixExactSpec.post enc Try.prog Try.f6 false true false false) := by
  refine returnsInHanded_of_change (C := Try.checked) own started (by kernel_rfl) Try.func6
    (ChangeSpec.witness6 (enc := enc) (C := Try.checked) false ⟨#[], #[.slice none 0 0, .slice none 0 0, .slice none 0 0, .slice none 0 0], []⟩ 8 (by kernel_rfl) (by kernel_rfl) (by kernel_rfl) (by kernel_rfl)) ?_
  intro W base args ds gs before hval0 hW hcnd _
  have hval : ∀ (j : Nat) t v, Try.f6.params[j]? = some t → args[j]? = some v → Value.okWide Try.prog W .any base t v := hval0
  have hW' := hW
  obtain ⟨p, q, hA0, hV, rfl, hfz, hnd⟩ := hW
  have hA : DataW.TrodAll enc Try.prog W 0 (fun _ => true) true Try.f6.params.toList args.toList ds p := hA0
  rw [Try.params6] at hA hval
  obtain ⟨v0, vs0, d0, ds0, p0, q0, ha0, rfl, rfl, t0, hA1⟩ := trodAll_cons hA
  obtain ⟨v1, vs1, d1, ds1, p1, q1, rfl, rfl, rfl, t1, hA2⟩ := trodAll_cons hA1
  obtain ⟨v2, vs2, d2, ds2, p2, q2, rfl, rfl, rfl, t2, hA3⟩ := trodAll_cons hA2
  obtain ⟨v3, vs3, d3, ds3, p3, q3, rfl, rfl, rfl, t3, hA4⟩ := trodAll_cons hA3
  obtain ⟨rfl, rfl, rfl⟩ := trodAll_nil hA4
  obtain rfl : args = #[v0, v1, v2, v3] := by cases args; simp_all
  obtain ⟨rfl, rfl⟩ := trodVars_none hV
  obtain ⟨a0, len0, cap0, rfl⟩ := okWide_slice Try.underlying22 (hval 0 22 v0 rfl rfl)
  obtain ⟨a1, len1, cap1, rfl⟩ := okWide_slice Try.underlying27 (hval 1 27 v1 rfl rfl)
  obtain ⟨a2, len2, cap2, rfl⟩ := okWide_slice Try.underlying27 (hval 2 27 v2 rfl rfl)
  obtain ⟨a3, len3, cap3, rfl⟩ := okWide_slice Try.underlying22 (hval 3 22 v3 rfl rfl)
  have hs22 := fun sp => stands_slice (enc := enc) (P := Try.prog) (w := W) (base := 0) (spare := sp) (held := true) Try.underlying22 (by kernel_rfl) (stands_i64 Try.underlying3)
  have hf22 : (avSl fun d : DataW H => AV.sc (.int .i64 (numI d))) = fun d => vs 0 (rowOf numI d) := funext fun d => avSl_row vi numI d
  have hs27 := fun sp => stands_slice (enc := enc) (P := Try.prog) (w := W) (base := 0) (spare := sp) (held := true) Try.underlying27 (by kernel_rfl) (hs22 sp)
  have hf27 : avSl (avSl fun d : DataW H => AV.sc (.int .i64 (numI d))) = fun d => vm 0 (rowOf (rowOf numI) d) := funext fun d => by
    rw [hf22]; exact avSl_row (vs 0) (rowOf numI) d
  have g0 := (hs22 _).arg rfl t0
  have g1 := (hs27 _).arg rfl t1
  have g2 := (hs27 _).arg rfl t2
  have g3 := (hs22 _).arg rfl t3
  rw [hf22] at g0 g3
  rw [hf27] at g1 g2
  have l1 : (rowOf (rowOf numI) d1).length ≤ 9223372036854775807 := row_len Try.underlying27 (by kernel_rfl) rfl t1
  have l2 : (rowOf (rowOf numI) d2).length ≤ 9223372036854775807 := row_len Try.underlying27 (by kernel_rfl) rfl t2
  exact (con_exactLaw (rowOf numI d0) (rowOf (rowOf numI) d1) (rowOf (rowOf numI) d2) (rowOf numI d3) l1 l2).law (.cons g0 (.cons g1 (.cons g2 (.cons g3 (.nil _))))) fun W' hb => ⟨_, rfl, law_post laidOut rfl rfl Try.underlying4 read2227 hW' rfl hb⟩

theorem exact_holds : Rows.MatrixExactSaid :=
  OpenClaim.holds_of_wide 6 Try.f6 rfl rfl rfl rfl rfl rfl rfl ⟨rfl, rfl, rfl, rfl, rfl⟩ rfl rfl rfl rfl rfl (by kernel_rfl) Try.func6 (by kernel_rfl)
    (of_decide_eq_true (by kernel_rfl)) (by unfold Func.isWrapper; first | (rw [if_pos (by decide +kernel)]; kernel_rfl) | (rw [if_neg (by decide +kernel)]; exact ⟨rfl, rfl⟩))
    (fun os started H enc _ => exact_lifted os started H enc)
#print axioms exact_holds
end Go.Proofs.Ytmkbhopiaohcmaa
