/-
  SimulateTraces answers true for every two lists of bytes, and leaves them as they were: no condition.
-/
import Derived.Test.YthmjnbmooedfjaaB0
import Derived.Test.YthmjnbmooedfjaaWR
namespace Go.Proofs.Ythmjnbmooedfjaa
open Go.ChangeShapes Go.WideShapes Go.ChangeAt Go.RowKit Go.AM

set_option maxRecDepth 100000 in
theorem traces_lifted (os : Os) (started : os.Started) (H : Type) (enc : TypeId × Value → H) :
    ReturnsInHanded {} Try.checked os 4 .any (Rows.simulateTracesSpec.pre6 enc Try.prog Try.f4 Rows.simulateTracesRow.domain false) (Rows.simulateTracesSpec.post enc Try.prog Try.f4 false true false false) := by
  refine returnsInHanded_of_change (C := Try.checked) own started (by kernel_rfl) Try.func4
    (ChangeSpec.witness6 (enc := enc) (C := Try.checked) false ⟨#[], #[.slice none 0 0, .slice none 0 0], []⟩ 8 (by kernel_rfl) (by kernel_rfl) (by kernel_rfl) (by kernel_rfl)) ?_
  intro W base args ds gs before hval0 hW hcnd _
  have hval : ∀ (j : Nat) t v, Try.f4.params[j]? = some t → args[j]? = some v → Value.okWide Try.prog W .any base t v := hval0
  have hW' := hW
  obtain ⟨p, q, hA0, hV, rfl, hfz, hnd⟩ := hW
  have hA : DataW.TrodAll enc Try.prog W 0 (fun _ => true) true Try.f4.params.toList args.toList ds p := hA0
  rw [Try.params4] at hA hval
  obtain ⟨v0, vs0, d0, ds0, p0, q0, ha0, rfl, rfl, t0, hA1⟩ := trodAll_cons hA
  obtain ⟨v1, vs1, d1, ds1, p1, q1, rfl, rfl, rfl, t1, hA2⟩ := trodAll_cons hA1
  obtain ⟨rfl, rfl, rfl⟩ := trodAll_nil hA2
  obtain rfl : args = #[v0, v1] := by cases args; simp_all
  obtain ⟨rfl, rfl⟩ := trodVars_none hV
  obtain ⟨a0, len0, cap0, rfl⟩ := okWide_slice Try.underlying22 (hval 0 22 v0 rfl rfl)
  obtain ⟨a1, len1, cap1, rfl⟩ := okWide_slice Try.underlying22 (hval 1 22 v1 rfl rfl)
  have hs22 := fun sp => stands_slice (enc := enc) (P := Try.prog) (w := W) (base := 0) (spare := sp) (held := true) Try.underlying22 (by kernel_rfl) (stands_u8 Try.underlying5)
  have hf22 : (avSl fun d : DataW H => vu (numU d)) = fun d => AV.sl 0 1 ((rowOf numU d).map vu) := funext fun d => avSl_row vu numU d
  have g0 := (hs22 _).arg rfl t0
  have g1 := (hs22 _).arg rfl t1
  rw [hf22] at g0 g1
  have l0 := row_len (f := numU) Try.underlying22 (by kernel_rfl) rfl t0
  have l1 := row_len (f := numU) Try.underlying22 (by kernel_rfl) rfl t1
  exact (con_tracesLaw (rowOf numU d0) (rowOf numU d1) l0 (rowU_range d0) l1 (rowU_range d1)).law (.cons g0 (.cons g1 (.nil _))) fun W' hb => ⟨_, rfl, law_post laidOut rfl rfl Try.underlying4 (reads22 2) hW' rfl hb⟩

theorem traces_holds : Rows.SimulateTracesSaid :=
  OpenClaim.holds_of_wide 4 Try.f4 rfl rfl rfl rfl rfl rfl rfl ⟨rfl, rfl, rfl, rfl, rfl⟩ rfl rfl rfl rfl rfl (by kernel_rfl) Try.func4 (by kernel_rfl)
    (of_decide_eq_true (by kernel_rfl)) (by unfold Func.isWrapper; first | (rw [if_pos (by decide +kernel)]; kernel_rfl) | (rw [if_neg (by decide +kernel)]; exact ⟨rfl, rfl⟩))
    (fun os started H enc _ => traces_lifted os started H enc)
#print axioms traces_holds
end Go.Proofs.Ythmjnbmooedfjaa
