/-
  CounterExact answers true for every four arguments (a list of numbers, a number, a value, a list of numbers), and leaves them as they were: no condition.
-/
import Derived.Test.YtpmodjodfimejaaGreath7
import Derived.Test.YtpmodjodfimejaaGreath26
namespace Go.Proofs.YtpmodjodfimejaaGreat
open Go.ChangeShapes Go.WideShapes Go.ChangeAt Go.RowKit Go.AM
set_option maxRecDepth 100000
theorem counterExact_lifted (os : Os) (started : os.Started) (H : Type) (enc : TypeId × Value -> H) :
  ReturnsInHanded {} Tryz.checked os 8 .any (Rows.counterExactSpec.pre6 enc Tryz.prog Tryz.f8 Rows.counterExactRow.domain false) (Rows.counterExactSpec.post enc Tryz.prog Tryz.f8 false true false false) := by
 refine returnsInHanded_of_change (C := Tryz.checked) own started (by kernel_rfl) Tryz.func8
  (ChangeSpec.witness6 (enc := enc) (C := Tryz.checked) false ⟨#[], #[.slice none 0 0, .int .i64 0, .agg #[.int .i64 0, .slice none 0 0], .slice none 0 0], []⟩ 8 (by kernel_rfl) (by kernel_rfl) (by kernel_rfl) (by kernel_rfl)) ?_
 intro W base args ds gs before hval0 hW hcnd _
 have hval : ∀ (j : Nat) t v, Tryz.f8.params[j]? = some t -> args[j]? = some v -> Value.okWide Tryz.prog W .any base t v := hval0
 have hW' := hW
 obtain ⟨p, q, hA0, hV, rfl, hfz, hnd⟩ := hW
 have hA : DataW.TrodAll enc Tryz.prog W 0 (fun _ => true) true Tryz.f8.params.toList args.toList ds p := hA0
 rw [Tryz.params8] at hA hval
 obtain ⟨v0, vs0, d0, ds0, p0, q0, ha0, rfl, rfl, t0, hA1⟩ := trodAll_cons hA
 obtain ⟨v1, vs1, d1, ds1, p1, q1, rfl, rfl, rfl, t1, hA2⟩ := trodAll_cons hA1
 obtain ⟨v2, vs2, d2, ds2, p2, q2, rfl, rfl, rfl, t2, hA3⟩ := trodAll_cons hA2
 obtain ⟨v3, vs3, d3, ds3, p3, q3, rfl, rfl, rfl, t3, hA4⟩ := trodAll_cons hA3
 obtain ⟨rfl, rfl, rfl⟩ := trodAll_nil hA4
 obtain rfl : args = #[v0, v1, v2, v3] := by cases args; simp_all
 obtain ⟨rfl, rfl⟩ := trodVars_none hV
 obtain ⟨a0, len0, cap0, rfl⟩ := okWide_slice Tryz.underlying22 (hval 0 22 v0 rfl rfl)
 obtain ⟨n1, rfl⟩ := okWide_int Tryz.underlying3 (hval 1 3 v1 rfl rfl)
 obtain ⟨a3, len3, cap3, rfl⟩ := okWide_slice Tryz.underlying22 (hval 3 22 v3 rfl rfl)
 have st := (stands_slice (enc := enc) (P := Tryz.prog) (w := W) (base := 0) (spare := fun _ => true) (held := true) Tryz.underlying22 (by kernel_rfl) (stands_i64 Tryz.underlying3))
 have g0 := st.arg rfl t0
 rw [show avSl (fun d => AV.sc (.int .i64 (numI d))) d0 = vs 0 (rowOf numI d0) from avSl_row vi numI d0] at g0
 have g3 := st.arg rfl t3
 rw [show avSl (fun d => AV.sc (.int .i64 (numI d))) d3 = vs 0 (rowOf numI d3) from avSl_row vi numI d3] at g3
 obtain ⟨m1, k1⟩ := t1
 obtain ⟨u1, hu1, R1⟩ := int_reads Tryz.underlying3 k1
 cases hu1
 obtain ⟨m2, k2⟩ := t2
 obtain ⟨R2, ok2⟩ := cv_reads _ d2 (Nat.le_refl _) _ _ _ k2
 rw [vV_eq] at R2
 have g2 : VRel (oldG W) W (.ag [vi (cvOf d2).n, .sl 0 2 ((cvOf d2).kids.map vV)]) v2 := agg_arg Tryz.underlying27 (hval 2 27 v2 rfl rfl) R2
 rw [<- vV_eq] at g2
 have hrec : ∀ t ∈ Tryz.f8.params.toList, Tryz.prog.readableRec t = true /\ t < Tryz.prog.types.size := fun t ht => by
  rw [Tryz.params8] at ht
  simp only [List.mem_cons, List.not_mem_nil, or_false] at ht
  rcases ht with rfl | rfl | rfl | rfl <;> exact ⟨by kernel_rfl, of_decide_eq_true (by kernel_rfl)⟩
 exact (con_counterLaw (rowOf numI d0) (numI d1) (cvOf d2) (rowOf numI d3) ok2).law
  (.cons g0 (.cons (.froz R1.one) (.cons g2 (.cons g3 (.nil _))))) fun W' hb => ⟨_, rfl, law_post laidOut rfl rfl Tryz.underlying4 hrec hW' rfl hb⟩
theorem counterExact_holds : Rows.CounterExactSaid :=
 OpenClaim.holds_of_wide 8 Tryz.f8 rfl rfl rfl rfl rfl rfl rfl ⟨rfl, rfl, rfl, rfl, rfl⟩ rfl rfl rfl rfl rfl counterExactNamed Tryz.func8 counterExactClosed
  (of_decide_eq_true (by kernel_rfl)) (by unfold Func.isWrapper; first | (rw [if_pos (by decide +kernel)]; kernel_rfl) | (rw [if_neg (by decide +kernel)]; exact ⟨rfl, rfl⟩))
  (fun os started H enc _ => counterExact_lifted os started H enc)
#print axioms counterExact_holds
end Go.Proofs.YtpmodjodfimejaaGreat
