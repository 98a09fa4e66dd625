/-
  ExpressionExact answers true for every six arguments (a list of numbers, a number of letters, two products, a word, a letter), and leaves them as they were: no condition.
-/
import Derived.Test.YtlcckmmibeddeaaGreatg8
import Derived.Test.YtlcckmmibeddeaaGreatg12
namespace Go.Proofs.YtlcckmmibeddeaaGreat
open Go.ChangeShapes Go.WideShapes Go.ChangeAt Go.RowKit Go.AM
set_option maxRecDepth 100000
theorem expressionExact_lifted (os : Os) (started : os.Started) (H : Type) (enc : TypeId × Value -> H) :
  ReturnsInHanded {} Tryz.checked os 3 .any (Rows.expressionExactSpec.pre6 enc Tryz.prog Tryz.f3 Rows.expressionExactRow.domain false) (Rows.expressionExactSpec.post enc Tryz.prog Tryz.f3 false true false false) := by
 refine returnsInHanded_of_change (C := Tryz.checked) own started (by kernel_rfl) Tryz.func3
  (ChangeSpec.witness6 (enc := enc) (C := Tryz.checked) false ⟨#[], #[.slice none 0 0, .int .i64 0, .slice none 0 0, .slice none 0 0, .slice none 0 0, .int .i64 0], []⟩ 8 (by kernel_rfl) (by kernel_rfl) (by kernel_rfl) (by kernel_rfl)) ?_
 intro W base args ds gs before hval0 hW hcnd _
 have hval : ∀ (j : Nat) t v, Tryz.f3.params[j]? = some t -> args[j]? = some v -> Value.okWide Tryz.prog W .any base t v := hval0
 have hW' := hW
 obtain ⟨p, q, hA0, hV, rfl, hfz, hnd⟩ := hW
 have hA : DataW.TrodAll enc Tryz.prog W 0 (fun _ => true) true Tryz.f3.params.toList args.toList ds p := hA0
 rw [Tryz.params3] at hA hval
 obtain ⟨v0, vs0, d0, ds0, p0, q0, ha0, rfl, rfl, t0, hA1⟩ := trodAll_cons hA
 obtain ⟨v1, vs1, d1, ds1, p1, q1, rfl, rfl, rfl, t1, hA2⟩ := trodAll_cons hA1
 obtain ⟨v2, vs2, d2, ds2, p2, q2, rfl, rfl, rfl, t2, hA3⟩ := trodAll_cons hA2
 obtain ⟨v3, vs3, d3, ds3, p3, q3, rfl, rfl, rfl, t3, hA4⟩ := trodAll_cons hA3
 obtain ⟨v4, vs4, d4, ds4, p4, q4, rfl, rfl, rfl, t4, hA5⟩ := trodAll_cons hA4
 obtain ⟨v5, vs5, d5, ds5, p5, q5, rfl, rfl, rfl, t5, hA6⟩ := trodAll_cons hA5
 obtain ⟨rfl, rfl, rfl⟩ := trodAll_nil hA6
 obtain rfl : args = #[v0, v1, v2, v3, v4, v5] := by cases args; simp_all
 obtain ⟨rfl, rfl⟩ := trodVars_none hV
 obtain ⟨a0, len0, cap0, rfl⟩ := okWide_slice Tryz.underlying22 (hval 0 22 v0 rfl rfl)
 obtain ⟨n1, rfl⟩ := okWide_int Tryz.underlying3 (hval 1 3 v1 rfl rfl)
 obtain ⟨a2, len2, cap2, rfl⟩ := okWide_slice Tryz.underlying23 (hval 2 23 v2 rfl rfl)
 obtain ⟨a3, len3, cap3, rfl⟩ := okWide_slice Tryz.underlying23 (hval 3 23 v3 rfl rfl)
 obtain ⟨a4, len4, cap4, rfl⟩ := okWide_slice Tryz.underlying22 (hval 4 22 v4 rfl rfl)
 obtain ⟨n5, rfl⟩ := okWide_int Tryz.underlying3 (hval 5 3 v5 rfl rfl)
 obtain ⟨m0, k0⟩ := t0
 obtain ⟨u0, hu0, R0, _⟩ := nums_reads k0
 cases hu0
 obtain ⟨m1, k1⟩ := t1
 obtain ⟨u1, hu1, R1⟩ := int_reads Tryz.underlying3 k1
 cases hu1
 obtain ⟨m2, k2⟩ := t2
 obtain ⟨u2, hu2, R2, l2⟩ := pr_reads k2
 cases hu2
 obtain ⟨m3, k3⟩ := t3
 obtain ⟨u3, hu3, R3, l3⟩ := pr_reads k3
 cases hu3
 obtain ⟨m4, k4⟩ := t4
 obtain ⟨u4, hu4, R4, _⟩ := nums_reads k4
 cases hu4
 obtain ⟨m5, k5⟩ := t5
 obtain ⟨u5, hu5, R5⟩ := int_reads Tryz.underlying3 k5
 cases hu5
 have hrec : ∀ t ∈ Tryz.f3.params.toList, Tryz.prog.readableRec t = true /\ t < Tryz.prog.types.size := fun t ht => by
  rw [Tryz.params3] at ht
  simp only [List.mem_cons, List.not_mem_nil, or_false] at ht
  rcases ht with rfl | rfl | rfl | rfl | rfl | rfl <;> exact ⟨by kernel_rfl, of_decide_eq_true (by kernel_rfl)⟩
 exact (con_xExactLaw (numsOf d0) (numI d1) (prOf d2) (prOf d3) (numsOf d4) (numI d5) l2 l3).law
  (.cons (.froz R0.one) (.cons (.froz R1.one) (.cons (.froz R2.one) (.cons (.froz R3.one) (.cons (.froz R4.one) (.cons (.froz R5.one) (.nil _))))))) fun W' hb => ⟨_, rfl, law_post laidOut rfl rfl Tryz.underlying4 hrec hW' rfl hb⟩
theorem expressionExact_holds : Rows.ExpressionExactSaid :=
 OpenClaim.holds_of_wide 3 Tryz.f3 rfl rfl rfl rfl rfl rfl rfl ⟨rfl, rfl, rfl, rfl, rfl⟩ rfl rfl rfl rfl rfl expressionExactNamed Tryz.func3 expressionExactClosed
  (of_decide_eq_true (by kernel_rfl)) (by unfold Func.isWrapper; first | (rw [if_pos (by decide +kernel)]; kernel_rfl) | (rw [if_neg (by decide +kernel)]; exact ⟨rfl, rfl⟩))
  (fun os started H enc _ => expressionExact_lifted os started H enc)
#print axioms expressionExact_holds
end Go.Proofs.YtlcckmmibeddeaaGreat
