/-
  SimulateSteps answers true for every six arguments (a list of bytes, a system, a graph, a relation, a number, a word), and leaves them as they were: no condition.
-/
import Derived.Test.Ythmjnbmooedfjaag5
import Derived.Test.Ythmjnbmooedfjaag8
namespace Go.Proofs.Ythmjnbmooedfjaa
open Go.ChangeShapes Go.WideShapes Go.ChangeAt Go.RowKit Go.AM

section
variable {H : Type} {enc : TypeId × Value → H} {w : World} {base : Nat} {spare : Nat → Bool} {held : Bool}

def arcOf (d : DataW H) : Int × Int := match partsOf d with
  | [d0, d1] => (numI d0, numI d1)
  | _ => (0, 0)
def arcsOf (d : DataW H) : List (Int × Int) := (elemsOf d).map arcOf
def tableOf (d : DataW H) : Go.AM.Sys := (elemsOf d).map arcsOf
def sysOf (d : DataW H) : Go.AM.Sys := match partsOf d with
  | [d0] => tableOf d0
  | _ => []
def boolD : DataW H → Bool
  | .lit (.bool b) => b
  | _ => false
def relOf (d : DataW H) : Go.AM.Rel := (elemsOf d).map fun x => (elemsOf x).map boolD
mutual
def cvOf : DataW H → CV
  | .agg parts => cvAgg parts
  | _ => .mk 0 []
def cvAgg : List (DataW H) → CV
  | [d0, d1] => .mk (numI d0) (cvKids d1)
  | _ => .mk 0 []
def cvKids : DataW H → List CV
  | .slice l _ => cvList l
  | _ => []
def cvList : List (DataW H) → List CV
  | [] => []
  | d :: l => cvOf d :: cvList l
end
theorem cvList_map : ∀ l : List (DataW H), cvList l = l.map cvOf
  | [] => by rw [cvList]; rfl
  | d :: l => by rw [cvList, cvList_map l]; rfl
theorem cvKids_eq (d : DataW H) : cvKids d = (elemsOf d).map cvOf := by
  cases d <;> simp only [cvKids, elemsOf, cvList_map, List.map_nil]
def confsOf (d : DataW H) : List CV := match partsOf d with
  | [d0, _] => (elemsOf d0).map cvOf
  | _ => []
def linksOf (d : DataW H) : Go.AM.Sys := match partsOf d with
  | [_, d1] => tableOf d1
  | _ => []

theorem cells47 : Try.prog.cellsOf 47 = 2 := by kernel_rfl
theorem cells80 : Try.prog.cellsOf 80 = 2 := by kernel_rfl
theorem cells50 : Try.prog.cellsOf 50 = 2 := by kernel_rfl
theorem cells28 : Try.prog.cellsOf 28 = 1 := by kernel_rfl
theorem cells26 : Try.prog.cellsOf 26 = 1 := by kernel_rfl
theorem cells45 : Try.prog.cellsOf 45 = 1 := by kernel_rfl
theorem cells48 : Try.prog.cellsOf 48 = 1 := by kernel_rfl
theorem cells42 : Try.prog.cellsOf 42 = 1 := by kernel_rfl
theorem cells3 : Try.prog.cellsOf 3 = 1 := by kernel_rfl
theorem cells4 : Try.prog.cellsOf 4 = 1 := by kernel_rfl
theorem bytes47 : Try.prog.bytesOf 47 = 16 := by kernel_rfl

theorem arc_reads {n : Nat} {cs : List Value} {d : DataW H} {ps : List MemPlace} (h : DataW.trod enc Try.prog w base spare held n 47 cs = some (d, ps)) : Reads w (va (arcOf d)).cells cs := by
  obtain ⟨v0, v1, d0, d1, m, p0, p1, rfl, rfl, h0, h1⟩ := struct2_reads Try.underlying47 cells47 rfl rfl cells3 cells3 h
  obtain ⟨u0, e0, r0⟩ := int_reads Try.underlying3 h0
  obtain ⟨u1, e1, r1⟩ := int_reads Try.underlying3 h1
  cases e0; cases e1
  exact r0.cons r1
theorem table_reads {n : Nat} {cs : List Value} {d : DataW H} {ps : List MemPlace} (h : DataW.trod enc Try.prog w base spare held n 26 cs = some (d, ps)) : ∃ v, cs = [v] ∧ Reads w [.sl 0 1 ((tableOf d).map (vl 0))] [v] := by
  obtain ⟨v, e, r, _⟩ := slice_reads (g := fun x => vl 0 (arcsOf x)) Try.underlying26 cells45 (by omega) h fun x hx m cs' ps' h' => by
    obtain ⟨v, rfl, r, _⟩ := slice_reads (g := fun x => va (arcOf x)) Try.underlying45 cells47 (by omega) h' fun y hy k cs'' ps'' h'' => arc_reads h''
    have e : (elemsOf x).map (fun x => va (arcOf x)) = (arcsOf x).map va := by simp [arcsOf]
    rw [e] at r
    exact r
  have e2 : (elemsOf d).map (fun x => vl 0 (arcsOf x)) = (tableOf d).map (vl 0) := by simp [tableOf]
  rw [e2] at r
  exact ⟨v, e, r⟩
theorem rel_reads {n : Nat} {cs : List Value} {d : DataW H} {ps : List MemPlace} (h : DataW.trod enc Try.prog w base spare held n 39 cs = some (d, ps)) : ∃ v, cs = [v] ∧ Reads w [vr 0 (relOf d)] [v] := by
  obtain ⟨v, e, r, _⟩ := slice_reads (g := fun x => vbl 0 ((elemsOf x).map boolD)) Try.underlying39 cells42 (by omega) h fun x hx m cs' ps' h' => by
    obtain ⟨v, rfl, r, _⟩ := slice_reads (g := fun x => vb (boolD x)) Try.underlying42 cells4 (by omega) h' fun y hy k cs'' ps'' h'' => by
      obtain ⟨u, b, rfl, rfl, r⟩ := bool_reads Try.underlying4 h''
      exact r
    have e : (elemsOf x).map (fun x => vb (boolD x)) = ((elemsOf x).map boolD).map vb := by simp
    rw [e] at r
    exact r
  have e2 : (elemsOf d).map (fun x => vbl 0 ((elemsOf x).map boolD)) = (relOf d).map (vbl 0) := by simp [relOf]
  rw [e2] at r
  exact ⟨v, e, r⟩
theorem word_reads {n : Nat} {cs : List Value} {d : DataW H} {ps : List MemPlace} (h : DataW.trod enc Try.prog w base spare held n 33 cs = some (d, ps)) : ∃ v, cs = [v] ∧ Reads w [vs 0 ((elemsOf d).map numI)] [v] := by
  obtain ⟨v, e, r, _⟩ := slice_reads (g := fun x => vi (numI x)) Try.underlying33 cells3 (by omega) h fun y hy k cs'' ps'' h'' => by
    obtain ⟨u, rfl, r⟩ := int_reads Try.underlying3 h''
    exact r
  have e2 : (elemsOf d).map (fun x => vi (numI x)) = ((elemsOf d).map numI).map vi := by simp
  rw [e2] at r
  exact ⟨v, e, r⟩
theorem cv_reads : ∀ (N : Nat) (d : DataW H), SizeOf.sizeOf d ≤ N → ∀ (n : Nat) (cs : List Value) (ps : List MemPlace), DataW.trod enc Try.prog w base spare held n 80 cs = some (d, ps) → Reads w (vV (cvOf d)).cells cs ∧ (cvOf d).Ok := by
  intro N
  induction N with
  | zero => intro d hd; cases d <;> simp at hd
  | succ N ih =>
  intro d hd n cs ps h
  obtain ⟨v0, v1, d0, d1, m, p0, p1, rfl, rfl, h0, h1⟩ := struct2_reads Try.underlying80 cells80 rfl rfl cells3 cells48 h
  simp only [DataW.agg.sizeOf_spec, List.cons.sizeOf_spec, List.nil.sizeOf_spec] at hd
  have hsz : ∀ x ∈ elemsOf d1, SizeOf.sizeOf x ≤ N := fun x hx => by have := elems_size hx; omega
  obtain ⟨u0, e0, r0⟩ := int_reads Try.underlying3 h0
  obtain ⟨u1, e1, r1, hlen, hex⟩ := slice_reads (g := fun x => vV (cvOf x)) Try.underlying48 cells80 (by omega) h1 fun x hx k cs' ps' h' => (ih x (hsz x hx) k cs' ps' h').1
  cases e0; cases e1
  have ecv : cvOf (.agg [d0, d1]) = .mk (numI d0) ((elemsOf d1).map cvOf) := by rw [cvOf, cvAgg, cvKids_eq]
  rw [ecv, vV_eq]
  have e2 : (elemsOf d1).map (fun x => vV (cvOf x)) = ((elemsOf d1).map cvOf).map vV := by simp
  rw [e2] at r1
  refine ⟨r0.cons r1, .mk _ _ (by rw [List.length_map]; exact hlen) fun y hy => ?_⟩
  obtain ⟨x, hx, rfl⟩ := List.mem_map.1 hy
  obtain ⟨k, cs', ps', h'⟩ := hex x hx
  exact (ih x (hsz x hx) k cs' ps' h').2
theorem confs_reads {n : Nat} {cs : List Value} {d : DataW H} {ps : List MemPlace} (h : DataW.trod enc Try.prog w base spare held n 48 cs = some (d, ps)) : ∃ v, cs = [v] ∧ Reads w [.sl 0 2 (((elemsOf d).map cvOf).map vV)] [v] ∧ ∀ x ∈ (elemsOf d).map cvOf, x.Ok := by
  obtain ⟨v, e, r, _, hex⟩ := slice_reads (g := fun x => vV (cvOf x)) Try.underlying48 cells80 (by omega) h fun x hx k cs' ps' h' => (cv_reads _ x (Nat.le_refl _) k cs' ps' h').1
  have e2 : (elemsOf d).map (fun x => vV (cvOf x)) = ((elemsOf d).map cvOf).map vV := by simp
  rw [e2] at r
  refine ⟨v, e, r, fun y hy => ?_⟩
  obtain ⟨x, hx, rfl⟩ := List.mem_map.1 hy
  obtain ⟨k, cs', ps', h'⟩ := hex x hx
  exact (cv_reads _ x (Nat.le_refl _) k cs' ps' h').2
theorem table_small {d : DataW H} (h : ∀ n ∈ d.weights Try.prog 26, n ≤ reachBytes) : ∀ l ∈ tableOf d, l.length ≤ 8796093022208 := fun l hl => by
  obtain ⟨x, hx, rfl⟩ := List.mem_map.1 hl
  have h1 := (weights_slice Try.underlying26 h).2 x hx
  have h2 := (weights_slice Try.underlying45 h1).1
  rw [bytes47] at h2
  have : reachBytes = 140737488351232 := by decide
  unfold arcsOf
  rw [List.length_map]; omega
end

set_option maxRecDepth 100000 in
theorem steps_lifted (os : Os) (started : os.Started) (H : Type) (enc : TypeId × Value → H) :
    ReturnsInHanded {} Try.checked os 8 .any (Rows.simulateStepsSpec.pre6 enc Try.prog Try.f8 Rows.simulateStepsRow.domain false) (Rows.simulateStepsSpec.post enc Try.prog Try.f8 false true false false) := by
  refine returnsInHanded_of_change_sized (C := Try.checked) own started (by kernel_rfl) Try.func8
    (ChangeSpec.witness6 (enc := enc) (C := Try.checked) false ⟨#[], #[.slice none 0 0, .agg #[.slice none 0 0], .agg #[.slice none 0 0, .slice none 0 0], .slice none 0 0, .int .i64 0, .slice none 0 0], []⟩ 8 (by kernel_rfl) (by kernel_rfl) (by kernel_rfl) (by kernel_rfl)) ?_
  intro W base args ds gs before hval0 hW hcnd hsize _
  have hval : ∀ (j : Nat) t v, Try.f8.params[j]? = some t → args[j]? = some v → Value.okWide Try.prog W .any base t v := hval0
  have hW' := hW
  obtain ⟨p, q, hA0, hV, rfl, hfz, hnd⟩ := hW
  have hA : DataW.TrodAll enc Try.prog W 0 (fun _ => true) true Try.f8.params.toList args.toList ds p := hA0
  rw [Try.params8] at hA hval
  obtain ⟨v0, vs0, d0, ds0, p0, q0, ha0, rfl, rfl, t0, hA1⟩ := trodAll_cons hA
  obtain ⟨v1, vs1, d1, ds1, p1, q1, rfl, rfl, rfl, t1, hA2⟩ := trodAll_cons hA1
  obtain ⟨v2, vs2, d2, ds2, p2, q2, rfl, rfl, rfl, t2, hA3⟩ := trodAll_cons hA2
  obtain ⟨v3, vs3, d3, ds3, p3, q3, rfl, rfl, rfl, t3, hA4⟩ := trodAll_cons hA3
  obtain ⟨v4, vs4, d4, ds4, p4, q4, rfl, rfl, rfl, t4, hA5⟩ := trodAll_cons hA4
  obtain ⟨v5, vs5, d5, ds5, p5, q5, rfl, rfl, rfl, t5, hA6⟩ := trodAll_cons hA5
  obtain ⟨rfl, rfl, rfl⟩ := trodAll_nil hA6
  obtain rfl : args = #[v0, v1, v2, v3, v4, v5] := by cases args; simp_all
  obtain ⟨rfl, rfl⟩ := trodVars_none hV
  obtain ⟨a0, len0, cap0, rfl⟩ := okWide_slice Try.underlying22 (hval 0 22 v0 rfl rfl)
  obtain ⟨a3, len3, cap3, rfl⟩ := okWide_slice Try.underlying39 (hval 3 39 v3 rfl rfl)
  obtain ⟨n4, rfl⟩ := okWide_int Try.underlying3 (hval 4 3 v4 rfl rfl)
  obtain ⟨a5, len5, cap5, rfl⟩ := okWide_slice Try.underlying33 (hval 5 33 v5 rfl rfl)
  have hs22 := fun sp => stands_slice (enc := enc) (P := Try.prog) (w := W) (base := 0) (spare := sp) (held := true) Try.underlying22 (by kernel_rfl) (stands_u8 Try.underlying5)
  have hf22 : (avSl fun d : DataW H => vu (numU d)) = fun d => AV.sl 0 1 ((rowOf numU d).map vu) := funext fun d => avSl_row vu numU d
  have g0 := (hs22 _).arg rfl t0
  rw [hf22] at g0
  have l0 := row_len (f := numU) Try.underlying22 (by kernel_rfl) rfl t0
  have hsz : ∀ (j : Nat) (t : TypeId) (d : DataW H), [22, 28, 50, 39, 3, 33][j]? = some t → [d0, d1, d2, d3, d4, d5][j]? = some d → ∀ n ∈ d.weights Try.prog t, n ≤ reachBytes := fun j t d ht hd n hn => by
    have hall : (DataW.weightsEach Try.prog [22, 28, 50, 39, 3, 33] [d0, d1, d2, d3, d4, d5]).all (· ≤ reachBytes) = true := hsize
    simpa using List.all_eq_true.1 hall n (DataW.weights_mem_each ht hd n hn)
  -- the system
  obtain ⟨m1, k1⟩ := t1
  obtain ⟨c1, e1, i1, r1, h1, rfl, h1'⟩ := struct1_reads Try.underlying28 cells28 rfl cells26 k1
  obtain ⟨u1, hu1, R1⟩ := table_reads h1'
  cases hu1
  have g1 : VRel (oldG W) W (vy 0 (tableOf e1)) v1 := agg_arg Try.underlying28 (hval 1 28 v1 rfl rfl) (by rw [h1]; exact R1)
  have s1 : ∀ l ∈ tableOf e1, l.length ≤ 8796093022208 := table_small fun n hn => hsz 1 28 (.agg [e1]) rfl rfl n (by simp [DataW.weights, Try.underlying28, DataW.weightsEach, hn])
  -- the graph
  obtain ⟨m2, k2⟩ := t2
  obtain ⟨c2, c2', e2, e2', i2, r2, r2', h2, rfl, h2', h2''⟩ := struct2_reads Try.underlying50 cells50 rfl rfl cells48 cells26 k2
  obtain ⟨u2, hu2, R2, ok2⟩ := confs_reads h2'
  obtain ⟨u2', hu2', R2'⟩ := table_reads h2''
  cases hu2; cases hu2'
  have g2 : VRel (oldG W) W (vG ((elemsOf e2).map cvOf) (tableOf e2')) v2 := agg_arg Try.underlying50 (hval 2 50 v2 rfl rfl) (by rw [h2]; exact R2.cons R2')
  have s2 : ∀ l ∈ tableOf e2', l.length ≤ 8796093022208 := table_small fun n hn => hsz 2 50 (.agg [e2, e2']) rfl rfl n (by simp [DataW.weights, Try.underlying50, DataW.weightsEach, hn])
  -- the others
  obtain ⟨m3, k3⟩ := t3
  obtain ⟨u3, hu3, R3⟩ := rel_reads k3
  cases hu3
  obtain ⟨m4, k4⟩ := t4
  obtain ⟨u4, hu4, R4⟩ := int_reads Try.underlying3 k4
  cases hu4
  obtain ⟨m5, k5⟩ := t5
  obtain ⟨u5, hu5, R5⟩ := word_reads k5
  cases hu5
  have hrec : ∀ t ∈ Try.f8.params.toList, Try.prog.readableRec t = true ∧ t < Try.prog.types.size := fun t ht => by
    rw [Try.params8] at ht
    simp only [List.mem_cons, List.not_mem_nil, or_false] at ht
    rcases ht with rfl | rfl | rfl | rfl | rfl | rfl <;> exact ⟨by kernel_rfl, of_decide_eq_true (by kernel_rfl)⟩
  exact (con_stepsLaw (rowOf numU d0) (tableOf e1) ((elemsOf e2).map cvOf) (tableOf e2') (relOf d3) (numI d4) ((elemsOf d5).map numI) l0 (rowU_range d0) s1 ok2 s2).law
    (.cons g0 (.cons g1 (.cons g2 (.cons (.froz R3.one) (.cons (.froz R4.one) (.cons (.froz R5.one) (.nil _))))))) fun W' hb => ⟨_, rfl, law_post laidOut rfl rfl Try.underlying4 hrec hW' rfl hb⟩

theorem steps_holds : Rows.SimulateStepsSaid :=
  OpenClaim.holds_of_wide 8 Try.f8 rfl rfl rfl rfl rfl rfl rfl ⟨rfl, rfl, rfl, rfl, rfl⟩ rfl rfl rfl rfl rfl (by kernel_rfl) Try.func8 (by kernel_rfl)
    (of_decide_eq_true (by kernel_rfl)) (by unfold Func.isWrapper; first | (rw [if_pos (by decide +kernel)]; kernel_rfl) | (rw [if_neg (by decide +kernel)]; exact ⟨rfl, rfl⟩))
    (fun os started H enc _ => steps_lifted os started H enc)
#print axioms steps_holds
end Go.Proofs.Ythmjnbmooedfjaa
