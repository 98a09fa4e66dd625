/-
  MatrixRank answers true for every list of integers, and leaves it as it was: no condition.
-/
import Derived.Test.YtmkbhopiaohcmaaRows
import Derived.Test.YtmkbhopiaohcmaaWM
import Derived.Test.YtmkbhopiaohcmaaAmT
namespace Go.Proofs.Ytmkbhopiaohcmaa
open Go.ChangeShapes Go.WideShapes Go.ChangeAt Go.RowKit Go.AM

theorem own : ownKnob Try.prog.godebug = none := by kernel_rfl
theorem laidOut : laidOutB Try.prog = true := by kernel_rfl
theorem read22 : ∀ t ∈ [22], Try.prog.readableRec t = true ∧ t < Try.prog.types.size := by
  intro t ht
  simp only [List.mem_cons, List.not_mem_nil, or_false] at ht
  subst ht
  exact ⟨by kernel_rfl, of_decide_eq_true (by kernel_rfl)⟩

set_option maxRecDepth 100000 in
theorem rank_lifted (os : Os) (started : os.Started) (H : Type) (enc : TypeId × Value → H) :
    ReturnsInHanded {} Try.checked os 5 .any (Rows.matrixRankSpec.pre6 enc Try.prog Try.f5 Rows.matrixRankRow.domain false) (Rows.matrixRankSpec.post enc Try.prog Try.f5 false true false false) := by
  refine returnsInHanded_of_change (C := Try.checked) own started (by kernel_rfl) Try.func5
    (ChangeSpec.witness6 (enc := enc) (C := Try.checked) false ⟨#[], #[.slice none 0 0], []⟩ 8 (by kernel_rfl) (by kernel_rfl) (by kernel_rfl) (by kernel_rfl)) ?_
  intro W base args ds gs before hval0 hW hcnd _
  have hval : ∀ (j : Nat) t v, Try.f5.params[j]? = some t → args[j]? = some v → Value.okWide Try.prog W .any base t v := hval0
  have hW' := hW
  obtain ⟨p, q, hA0, hV, rfl, hfz, hnd⟩ := hW
  have hA : DataW.TrodAll enc Try.prog W 0 (fun _ => true) true Try.f5.params.toList args.toList ds p := hA0
  rw [Try.params5] at hA hval
  obtain ⟨v0, d0, rfl, rfl, h0⟩ := trodAll_one hA
  obtain ⟨rfl, rfl⟩ := trodVars_none hV
  obtain ⟨a0, len, cap, rfl⟩ := okWide_slice Try.underlying22 (hval 0 22 v0 rfl rfl)
  have hst := (stands_slice (enc := enc) (P := Try.prog) (w := W) (base := 0) (spare := fun _ => true) (held := true) Try.underlying22 (by kernel_rfl) (stands_i64 Try.underlying3)).arg rfl h0
  rw [show avSl (fun d => AV.sc (.int .i64 (numI d))) d0 = vs 0 (rowOf numI d0) from avSl_row vi numI d0] at hst
  exact (con_rankLaw (rowOf numI d0)).law (.cons hst (.nil _)) fun W' hb => ⟨_, rfl, law_post laidOut rfl rfl Try.underlying4 read22 hW' rfl hb⟩

theorem rank_holds : Rows.MatrixRankSaid :=
  OpenClaim.holds_of_wide 5 Try.f5 rfl rfl rfl rfl rfl rfl rfl ⟨rfl, rfl, rfl, rfl, rfl⟩ rfl rfl rfl rfl rfl (by kernel_rfl) Try.func5 (by kernel_rfl)
    (of_decide_eq_true (by kernel_rfl)) (by unfold Func.isWrapper; first | (rw [if_pos (by decide +kernel)]; kernel_rfl) | (rw [if_neg (by decide +kernel)]; exact ⟨rfl, rfl⟩))
    (fun os started H enc _ => rank_lifted os started H enc)
#print axioms rank_holds
end Go.Proofs.Ytmkbhopiaohcmaa
