/-
  BoundedPumps answers true for every list of bytes and every number, and leaves them as they were: no condition.
-/
import Derived.Test.YtapjfgddbfneaaaGreatg6
import Derived.Test.YtapjfgddbfneaaaGreatg17
import Derived.Test.YtapjfgddbfneaaaGreatg19
namespace Go.Proofs.YtapjfgddbfneaaaGreat
open Go.ChangeShapes Go.WideShapes Go.ChangeAt Go.RowKit Go.AM
set_option maxRecDepth 100000
theorem boundedPumps_lifted (os : Os) (started : os.Started) (H : Type) (enc : TypeId × Value -> H) :
  ReturnsInHanded {} Tryz.checked os 6 .any (Rows.boundedPumpsSpec.pre6 enc Tryz.prog Tryz.f6 Rows.boundedPumpsRow.domain false) (Rows.boundedPumpsSpec.post enc Tryz.prog Tryz.f6 false true false false) := by
 refine returnsInHanded_of_change (C := Tryz.checked) own started (by kernel_rfl) Tryz.func6
  (ChangeSpec.witness6 (enc := enc) (C := Tryz.checked) false ⟨#[], #[.slice none 0 0, .int .u8 0], []⟩ 8 (by kernel_rfl) (by kernel_rfl) (by kernel_rfl) (by kernel_rfl)) ?_
 intro W base args ds gs before hval0 hW hcnd _
 have hval : ∀ (j : Nat) t v, Tryz.f6.params[j]? = some t -> args[j]? = some v -> Value.okWide Tryz.prog W .any base t v := hval0
 have hW' := hW
 obtain ⟨p, q, hA0, hV, rfl, hfz, hnd⟩ := hW
 have hA : DataW.TrodAll enc Tryz.prog W 0 (fun _ => true) true Tryz.f6.params.toList args.toList ds p := hA0
 rw [Tryz.params6] at hA hval
 obtain ⟨v0, vs0, d0, ds0, p0, q0, ha0, rfl, rfl, t0, hA1⟩ := trodAll_cons hA
 obtain ⟨v1, vs1, d1, ds1, p1, q1, rfl, rfl, rfl, t1, hA2⟩ := trodAll_cons hA1
 obtain ⟨rfl, rfl, rfl⟩ := trodAll_nil hA2
 obtain rfl : args = #[v0, v1] := by cases args; simp_all
 obtain ⟨rfl, rfl⟩ := trodVars_none hV
 obtain ⟨a0, len0, cap0, rfl⟩ := okWide_slice Tryz.underlying22 (hval 0 22 v0 rfl rfl)
 obtain ⟨n1, rfl⟩ := okWide_int Tryz.underlying5 (hval 1 5 v1 rfl rfl)
 have hs22 := fun sp => stands_slice (enc := enc) (P := Tryz.prog) (w := W) (base := 0) (spare := sp) (held := true) Tryz.underlying22 (by kernel_rfl) (stands_u8 Tryz.underlying5)
 have hf22 : (avSl fun d : DataW H => vu (numU d)) = fun d => AV.sl 0 1 ((rowOf numU d).map vu) := funext fun d => avSl_row vu numU d
 have hs5 := fun sp => stands_u8 (enc := enc) (P := Tryz.prog) (w := W) (base := 0) (spare := sp) (held := true) Tryz.underlying5
 have g0 := (hs22 _).arg rfl t0
 rw [hf22] at g0
 have g1 := (hs5 _).arg rfl t1
 have l0 := row_len (f := numU) Tryz.underlying22 (by kernel_rfl) rfl t0
 have r1 := numU_range d1
 obtain ⟨x1, hx1⟩ : ∃ x : Nat, numU d1 = (x : Int) := ⟨(numU d1).toNat, by omega⟩
 rw [hx1] at g1
 have hrec : ∀ t ∈ [22, 5], Tryz.prog.readableRec t = true /\ t < Tryz.prog.types.size := fun t ht => by
  simp only [List.mem_cons, List.not_mem_nil, or_false] at ht
  rcases ht with rfl | rfl <;> exact ⟨by kernel_rfl, of_decide_eq_true (by kernel_rfl)⟩
 exact (con_bpumpsLaw (rowOf numU d0) x1 l0 (rowU_range d0) (by omega)).law (.cons g0 (.cons g1 (.nil _))) fun W' hb => ⟨_, rfl, law_post laidOut rfl rfl Tryz.underlying4 hrec hW' rfl hb⟩
theorem boundedPumps_holds : Rows.BoundedPumpsSaid :=
 OpenClaim.holds_of_wide 6 Tryz.f6 rfl rfl rfl rfl rfl rfl rfl ⟨rfl, rfl, rfl, rfl, rfl⟩ rfl rfl rfl rfl rfl boundedPumpsNamed Tryz.func6 boundedPumpsClosed
  (of_decide_eq_true (by kernel_rfl)) (by unfold Func.isWrapper; first | (rw [if_pos (by decide +kernel)]; kernel_rfl) | (rw [if_neg (by decide +kernel)]; exact ⟨rfl, rfl⟩))
  (fun os started H enc _ => boundedPumps_lifted os started H enc)
#print axioms boundedPumps_holds
end Go.Proofs.YtapjfgddbfneaaaGreat
