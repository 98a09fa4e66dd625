/-
 ExpressionCommon answers true for every list of numbers, and leaves it as it was: no condition.
-/
import Derived.Test.YtlcckmmibeddeaaX1
import Derived.Test.YtlcckmmibeddeaaExX
namespace Go.Proofs.Ytlcckmmibeddeaa
open Go.ChangeShapes Go.WideShapes Go.ChangeAt Go.RowKit Go.AM
set_option maxRecDepth 100000
theorem expressionCommon_lifted (os : Os) (started : os.Started) (H : Type) (enc : TypeId × Value -> H) :
  ReturnsInHanded {} Try.checked os 4 .any (Rows.expressionCommonSpec.pre6 enc Try.prog Try.f4 Rows.expressionCommonRow.domain false) (Rows.expressionCommonSpec.post enc Try.prog Try.f4 false true false false) := by
 refine returnsInHanded_of_change (C := Try.checked) own started (by kernel_rfl) Try.func4
  (ChangeSpec.witness6 (enc := enc) (C := Try.checked) false ⟨#[], #[.slice none 0 0], []⟩ 8 (by kernel_rfl) (by kernel_rfl) (by kernel_rfl) (by kernel_rfl)) ?_
 intro W base args ds gs before hval0 hW hcnd _
 have hval : ∀ (j : Nat) t v, Try.f4.params[j]? = some t -> args[j]? = some v -> Value.okWide Try.prog W .any base t v := hval0
 have hW' := hW
 obtain ⟨p, q, hA0, hV, rfl, hfz, hnd⟩ := hW
 have hA : DataW.TrodAll enc Try.prog W 0 (fun _ => true) true Try.f4.params.toList args.toList ds p := hA0
 rw [Try.params4] at hA hval
 obtain ⟨v0, vs0, d0, ds0, p0, q0, ha0, rfl, rfl, t0, hA1⟩ := trodAll_cons hA
 obtain ⟨rfl, rfl, rfl⟩ := trodAll_nil hA1
 obtain rfl : args = #[v0] := by cases args; simp_all
 obtain ⟨rfl, rfl⟩ := trodVars_none hV
 obtain ⟨a0, len0, cap0, rfl⟩ := okWide_slice Try.underlying22 (hval 0 22 v0 rfl rfl)
 have hst := (stands_slice (enc := enc) (P := Try.prog) (w := W) (base := 0) (spare := fun _ => true) (held := true) Try.underlying22 (by kernel_rfl) (stands_i64 Try.underlying3)).arg rfl t0
 rw [show avSl (fun d => AV.sc (.int .i64 (numI d))) d0 = vs 0 (rowOf numI d0) from avSl_row vi numI d0] at hst
 exact (con_xCommonLaw (rowOf numI d0)).law (.cons hst (.nil _)) fun W' hb => ⟨_, rfl, law_post laidOut rfl rfl Try.underlying4 (reads22 1) hW' rfl hb⟩
theorem expressionCommon_holds : Rows.ExpressionCommonSaid :=
 OpenClaim.holds_of_wide 4 Try.f4 rfl rfl rfl rfl rfl rfl rfl ⟨rfl, rfl, rfl, rfl, rfl⟩ rfl rfl rfl rfl rfl (by kernel_rfl) Try.func4 (by kernel_rfl)
  (of_decide_eq_true (by kernel_rfl)) (by unfold Func.isWrapper; first | (rw [if_pos (by decide +kernel)]; kernel_rfl) | (rw [if_neg (by decide +kernel)]; exact ⟨rfl, rfl⟩))
  (fun os started H enc _ => expressionCommon_lifted os started H enc)
#print axioms expressionCommon_holds
end Go.Proofs.Ytlcckmmibeddeaa
