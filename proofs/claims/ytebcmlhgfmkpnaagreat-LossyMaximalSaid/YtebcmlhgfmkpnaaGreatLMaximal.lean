/-
  LossyMaximal answers true for every list of bytes, and leaves it as it was: no condition.
-/
import Derived.Test.YtebcmlhgfmkpnaaGreatg23
import Derived.Test.YtebcmlhgfmkpnaaGreatg34
import Derived.Test.YtebcmlhgfmkpnaaGreatg36
namespace Go.Proofs.YtebcmlhgfmkpnaaGreat
open Go.ChangeShapes Go.WideShapes Go.ChangeAt Go.RowKit Go.AM
set_option maxRecDepth 100000
theorem lossyMaximal_lifted (os : Os) (started : os.Started) (H : Type) (enc : TypeId × Value -> H) :
  ReturnsInHanded {} Tryz.checked os 4 .any (Rows.lossyMaximalSpec.pre6 enc Tryz.prog Tryz.f4 Rows.lossyMaximalRow.domain false) (Rows.lossyMaximalSpec.post enc Tryz.prog Tryz.f4 false true false false) := by
 refine returnsInHanded_of_change (C := Tryz.checked) own started (by kernel_rfl) Tryz.func4
  (ChangeSpec.witness6 (enc := enc) (C := Tryz.checked) false ⟨#[], #[.slice none 0 0], []⟩ 8 (by kernel_rfl) (by kernel_rfl) (by kernel_rfl) (by kernel_rfl)) ?_
 intro W base args ds gs before hval0 hW hcnd _
 have hval : ∀ (j : Nat) t v, Tryz.f4.params[j]? = some t -> args[j]? = some v -> Value.okWide Tryz.prog W .any base t v := hval0
 have hW' := hW
 obtain ⟨p, q, hA0, hV, rfl, hfz, hnd⟩ := hW
 have hA : DataW.TrodAll enc Tryz.prog W 0 (fun _ => true) true Tryz.f4.params.toList args.toList ds p := hA0
 rw [Tryz.params4] at hA hval
 obtain ⟨v0, vs0, d0, ds0, p0, q0, ha0, rfl, rfl, t0, hA1⟩ := trodAll_cons hA
 obtain ⟨rfl, rfl, rfl⟩ := trodAll_nil hA1
 obtain rfl : args = #[v0] := by cases args; simp_all
 obtain ⟨rfl, rfl⟩ := trodVars_none hV
 obtain ⟨a0, len0, cap0, rfl⟩ := okWide_slice Tryz.underlying22 (hval 0 22 v0 rfl rfl)
 have hs22 := fun sp => stands_slice (enc := enc) (P := Tryz.prog) (w := W) (base := 0) (spare := sp) (held := true) Tryz.underlying22 (by kernel_rfl) (stands_u8 Tryz.underlying5)
 have hf22 : (avSl fun d : DataW H => vu (numU d)) = fun d => AV.sl 0 1 ((rowOf numU d).map vu) := funext fun d => avSl_row vu numU d
 have g0 := (hs22 _).arg rfl t0
 rw [hf22] at g0
 have l0 := row_len (f := numU) Tryz.underlying22 (by kernel_rfl) rfl t0
 exact (con_maximalLaw (rowOf numU d0) l0 (rowU_range d0)).law (.cons g0 (.nil _)) fun W' hb => ⟨_, rfl, law_post laidOut rfl rfl Tryz.underlying4 (reads22 1) hW' rfl hb⟩
theorem lossyMaximal_holds : Rows.LossyMaximalSaid :=
 OpenClaim.holds_of_wide 4 Tryz.f4 rfl rfl rfl rfl rfl rfl rfl ⟨rfl, rfl, rfl, rfl, rfl⟩ rfl rfl rfl rfl rfl lossyMaximalNamed Tryz.func4 lossyMaximalClosed
  (of_decide_eq_true (by kernel_rfl)) (by unfold Func.isWrapper; first | (rw [if_pos (by decide +kernel)]; kernel_rfl) | (rw [if_neg (by decide +kernel)]; exact ⟨rfl, rfl⟩))
  (fun os started H enc _ => lossyMaximal_lifted os started H enc)
#print axioms lossyMaximal_holds
end Go.Proofs.YtebcmlhgfmkpnaaGreat
