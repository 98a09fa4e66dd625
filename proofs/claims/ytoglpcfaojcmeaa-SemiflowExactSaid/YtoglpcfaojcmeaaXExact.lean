/-
  SemiflowExact answers true for every six arguments (a list of numbers, a matrix, three lists of numbers, a number), and leaves them as they were: no condition.
-/
import Derived.Test.Ytoglpcfaojcmeaag11
import Derived.Test.Ytoglpcfaojcmeaag19
namespace Go.Proofs.Ytoglpcfaojcmeaa
open Go.ChangeShapes Go.WideShapes Go.ChangeAt Go.RowKit Go.AM
set_option maxRecDepth 100000
theorem semiflowExact_lifted (os : Os) (started : os.Started) (H : Type) (enc : TypeId × Value → H) :
  ReturnsInHanded {} Try.checked os 3 .any (Rows.semiflowExactSpec.pre6 enc Try.prog Try.f3 Rows.semiflowExactRow.domain false) (Rows.semiflowExactSpec.post enc Try.prog Try.f3 false true false false) := by
 refine returnsInHanded_of_change (C := Try.checked) own started (by kernel_rfl) Try.func3
  (ChangeSpec.witness6 (enc := enc) (C := Try.checked) false ⟨#[], #[.slice none 0 0, .slice none 0 0, .slice none 0 0, .slice none 0 0, .slice none 0 0, .int .i64 0], []⟩ 8 (by kernel_rfl) (by kernel_rfl) (by kernel_rfl) (by kernel_rfl)) ?_
 intro W base args ds gs before hval0 hW hcnd _
 have hval : ∀ (j : Nat) t v, Try.f3.params[j]? = some t → args[j]? = some v → Value.okWide Try.prog W .any base t v := hval0
 have hW' := hW
 obtain ⟨p, q, hA0, hV, rfl, hfz, hnd⟩ := hW
 have hA : DataW.TrodAll enc Try.prog W 0 (fun _ => true) true Try.f3.params.toList args.toList ds p := hA0
 rw [Try.params3] at hA hval
 obtain ⟨v0, vs0, d0, ds0, p0, q0, ha0, rfl, rfl, t0, hA1⟩ := trodAll_cons hA
 obtain ⟨v1, vs1, d1, ds1, p1, q1, rfl, rfl, rfl, t1, hA2⟩ := trodAll_cons hA1
 obtain ⟨v2, vs2, d2, ds2, p2, q2, rfl, rfl, rfl, t2, hA3⟩ := trodAll_cons hA2
 obtain ⟨v3, vs3, d3, ds3, p3, q3, rfl, rfl, rfl, t3, hA4⟩ := trodAll_cons hA3
 obtain ⟨v4, vs4, d4, ds4, p4, q4, rfl, rfl, rfl, t4, hA5⟩ := trodAll_cons hA4
 obtain ⟨v5, vs5, d5, ds5, p5, q5, rfl, rfl, rfl, t5, hA6⟩ := trodAll_cons hA5
 obtain ⟨rfl, rfl, rfl⟩ := trodAll_nil hA6
 obtain rfl : args = #[v0, v1, v2, v3, v4, v5] := by cases args; simp_all
 obtain ⟨rfl, rfl⟩ := trodVars_none hV
 obtain ⟨a0, len0, cap0, rfl⟩ := okWide_slice Try.underlying22 (hval 0 22 v0 rfl rfl)
 obtain ⟨a1, len1, cap1, rfl⟩ := okWide_slice Try.underlying23 (hval 1 23 v1 rfl rfl)
 obtain ⟨a2, len2, cap2, rfl⟩ := okWide_slice Try.underlying22 (hval 2 22 v2 rfl rfl)
 obtain ⟨a3, len3, cap3, rfl⟩ := okWide_slice Try.underlying22 (hval 3 22 v3 rfl rfl)
 obtain ⟨a4, len4, cap4, rfl⟩ := okWide_slice Try.underlying22 (hval 4 22 v4 rfl rfl)
 obtain ⟨n5, rfl⟩ := okWide_int Try.underlying3 (hval 5 3 v5 rfl rfl)
 have hs22 := fun sp => stands_slice (enc := enc) (P := Try.prog) (w := W) (base := 0) (spare := sp) (held := true) Try.underlying22 (by kernel_rfl) (stands_i64 Try.underlying3)
 have hf22 : (avSl fun d : DataW H => AV.sc (.int .i64 (numI d))) = fun d => vs 0 (rowOf numI d) := funext fun d => avSl_row vi numI d
 have hs23 := fun sp => stands_slice (enc := enc) (P := Try.prog) (w := W) (base := 0) (spare := sp) (held := true) Try.underlying23 (by kernel_rfl) (hs22 sp)
 have hf23 : avSl (avSl fun d : DataW H => AV.sc (.int .i64 (numI d))) = fun d => vm 0 (rowOf (rowOf numI) d) := funext fun d => by
  rw [hf22]; exact avSl_row (vs 0) (rowOf numI) d
 have g0 := (hs22 _).arg rfl t0
 have g1 := (hs23 _).arg rfl t1
 have g2 := (hs22 _).arg rfl t2
 have g3 := (hs22 _).arg rfl t3
 have g4 := (hs22 _).arg rfl t4
 rw [hf22] at g0 g2 g3 g4
 rw [hf23] at g1
 have l1 : (rowOf (rowOf numI) d1).length ≤ 9223372036854775807 := row_len Try.underlying23 (by kernel_rfl) rfl t1
 obtain ⟨m5, k5⟩ := t5
 obtain ⟨u5, hu5, R5⟩ := int_reads Try.underlying3 k5
 cases hu5
 have hrec : ∀ t ∈ Try.f3.params.toList, Try.prog.readableRec t = true ∧ t < Try.prog.types.size := fun t ht => by
  rw [Try.params3] at ht
  simp only [List.mem_cons, List.not_mem_nil, or_false] at ht
  rcases ht with rfl | rfl | rfl | rfl | rfl | rfl <;> exact ⟨by kernel_rfl, of_decide_eq_true (by kernel_rfl)⟩
 exact (con_mxExactLaw (rowOf numI d0) (rowOf (rowOf numI) d1) (rowOf numI d2) (rowOf numI d3) (rowOf numI d4) (numI d5) l1).law
  (.cons g0 (.cons g1 (.cons g2 (.cons g3 (.cons g4 (.cons (.froz R5.one) (.nil _))))))) fun W' hb => ⟨_, rfl, law_post laidOut rfl rfl Try.underlying4 hrec hW' rfl hb⟩
theorem semiflowExact_holds : Rows.SemiflowExactSaid :=
 OpenClaim.holds_of_wide 3 Try.f3 rfl rfl rfl rfl rfl rfl rfl ⟨rfl, rfl, rfl, rfl, rfl⟩ rfl rfl rfl rfl rfl (by kernel_rfl) Try.func3 (by kernel_rfl)
  (of_decide_eq_true (by kernel_rfl)) (by unfold Func.isWrapper; first | (rw [if_pos (by decide +kernel)]; kernel_rfl) | (rw [if_neg (by decide +kernel)]; exact ⟨rfl, rfl⟩))
  (fun os started H enc _ => semiflowExact_lifted os started H enc)
#print axioms semiflowExact_holds
end Go.Proofs.Ytoglpcfaojcmeaa
