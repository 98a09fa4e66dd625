/-
 ExpressionCommon: the law's walk (chapter 9).
-/
import Derived.Test.YtlcckmmibeddeaaExW
namespace Go.AM
open Go Go.Proofs Go.RowKit
set_option maxRecDepth 100000
set_option maxHeartbeats 8000000
theorem any_stepP {B : List (List TmD)} {w : List Int} {j : Nat} (h : j < B.length) : anyP (B.take (j + 1)) w = (anyP (B.take j) w || memP B[j]! w) := by
 rw [List.take_succ_eq_append_getElem h, any_app, any_cons, any_nil, Bool.or_false, <- getElem!_pos B j h]
theorem any_stepW {U : List (List Int)} {w : List Int} {j : Nat} (h : j < U.length) : ((U.take (j + 1)).any fun x => subB x w) = ((U.take j).any (fun x => subB x w) || subB U[j]! w) := by
 rw [List.take_succ_eq_append_getElem h, List.any_append, <- getElem!_pos U j h]; simp
theorem con_xCommonLaw (l : List Int) : Con Try.prog 4 [vs 0 l] [] fun r _ => r = vb true := by
 refine Con.intro Try.func4 rfl Try.ntmps4 Try.results4 (by kernel_rfl) (by simp) 0 (by simp) ?_
 simp only [go_sem]
 refine CallU.free con_xawake (by simp only [go_sem]) (by simp only [go_sem]) ?_
 rintro r bx rfl
 simp only [go_sem]
 refine CallU.free (con_few l 0 (by omega)) (by simp only [go_sem]) (by simp only [go_sem]) ?_
 rintro r bx rfl
 by_cases hf : (l.length : Int) <= 400
 case neg =>
  have hf' : ¬ l.length <= 400 := by omega
  simp only [go_sem, hf']
  refine CallU.free con_xawake (by simp only [go_sem]) (by simp only [go_sem]) ?_
  rintro r bx rfl
  simp only [go_sem]
 have hf' : l.length <= 400 := by omega
 simp only [go_sem, hf']
 refine CallU.news (bx0 := []) (con_xNewS l) (by simp only [go_sem]) (by simp only [go_sem]) (by simp only [go_sem]) (by simp only [go_sem]) (by simp only [go_sem]) ?_
 rintro r b ⟨rfl, rfl⟩
 have hd : Dk l (0, 11400714819323198485) := ⟨Nat.zero_le _, by omega⟩
 generalize ((0, 11400714819323198485) : DS) = s0 at hd
 simp only [go_sem]
 refine CallU.boxes (i := 0) (is := []) (bx0 := [deckA l s0]) (con_dProduct l s0 2 4 hd (by omega) (by omega)) (by simp only [go_sem]) (by simp only [go_sem]) (by simp only [go_sem]) (by simp only [go_sem]) (by simp only [go_sem]) ?_
 rintro r b ⟨p, s1, hp, hd1, rfl, rfl⟩
 have hV := hp.valid (by omega)
 simp only [go_sem, vPr]
 refine CallU.boxes (i := 0) (is := []) (bx0 := [deckA l s1]) (con_dProduct l s1 2 4 hd1 (by omega) (by omega)) (by simp only [go_sem]) (by simp only [go_sem]) (by simp only [go_sem]) (by simp only [go_sem]) (by simp only [go_sem]) ?_
 rintro r b ⟨q, s2, hq, hd2, rfl, rfl⟩
 have hW := hq.valid (by omega)
 have cm := con_xMeetA p q hp hq
 simp only [vPr] at cm
 simp only [go_sem, vPr]
 refine CallU.free cm (by simp only [go_sem]) (by simp only [go_sem]) ?_
 rintro r bx rfl
 have hMv := meetA_valid hp hq
 have hMa := meetA_any hV.ok hW.ok
 have hMl : (ascFP (maxL (meetP p q))).length <= 12 := by rw [(asc_permP _).length_eq]; exact dealt_meet hp hq
 generalize ascFP (maxL (meetP p q)) = M at hMv hMa hMl
 simp only [go_sem]
 refine CallU.boxes (i := 0) (is := []) (bx0 := [deckA l s2]) (con_dWordF l s2 2 3 hd2 (by omega) (by omega)) (by simp only [go_sem]) (by simp only [go_sem]) (by simp only [go_sem]) (by simp only [go_sem]) (by simp only [go_sem]) ?_
 rintro r b ⟨rfl, rfl⟩
 have hd3 : Dk l (wdS l s2 2 3) := wdS_dk hd2
 have hu1 := wdV_ok (l := l) (s := s2)
 generalize wdV l s2 2 3 = u1 at hu1
 generalize wdS l s2 2 3 = s3 at hd3
 simp only [go_sem]
 refine CallU.boxes (i := 0) (is := []) (bx0 := [deckA l s3]) (con_dWordF l s3 2 3 hd3 (by omega) (by omega)) (by simp only [go_sem]) (by simp only [go_sem]) (by simp only [go_sem]) (by simp only [go_sem]) (by simp only [go_sem]) ?_
 rintro r b ⟨rfl, rfl⟩
 have hd4 : Dk l (wdS l s3 2 3) := wdS_dk hd3
 have hu2 := wdV_ok (l := l) (s := s3)
 generalize wdV l s3 2 3 = u2 at hu2
 generalize wdS l s3 2 3 = s4 at hd4
 simp only [go_sem]
 refine CallU.boxes (i := 0) (is := []) (bx0 := [deckA l s4]) (con_dNext l s4 3 hd4) (by simp only [go_sem]) (by simp only [go_sem]) (by simp only [go_sem]) (by simp only [go_sem]) (by simp only [go_sem]) ?_
 rintro r b ⟨rfl, rfl⟩
 have hn1 := nextV_lt (l := l) (s := s4) (n := 3) (by omega)
 have hd5 : Dk l (nextS l s4 3) := nextS_dk hd4
 obtain ⟨c, ec⟩ : ∃ c : Nat, nextV l s4 3 = c := ⟨_, (Int.toNat_of_nonneg hn1.1).symm⟩
 rw [ec] at hn1 ⊢
 generalize nextS l s4 3 = s5 at hd5
 have hc2 : c <= 2 := by omega
 simp only [go_sem, hc2]
 have hUl : ([u1, u2].take c).length <= 2 := by rw [List.length_take]; simp only [List.length_cons, List.length_nil]; omega
 have hU : ∀ w ∈ [u1, u2].take c, w.length <= 3 /\ ∀ x ∈ w, In2 x := fun w hw => by
  have := List.mem_of_mem_take hw
  simp only [List.mem_cons, List.not_mem_nil, or_false] at this
  rcases this with rfl | rfl
  ·exact hu1
  ·exact hu2
 have hUe : List.map (vs 0) ([u1, u2].take c) = List.take c [AV.sl 0 1 (List.map vi u1), AV.sl 0 1 (List.map vi u2)] := by rw [List.map_take]; rfl
 rw [<- hUe]
 clear hUe hu1 hu2
 generalize [u1, u2].take c = U at hU hUl
 have cb := con_xBelowA U hUl hU
 have hBv := belA_valid hUl hU
 have hBl := belA_few hUl hU
 have hBa := fun {v : List Int} hv => belA_any (v := v) hUl hU hv
 simp only [vm] at cb
 refine CallU.freeze cb (by simp only [go_sem]) (by simp only [go_sem]) ?_
 rintro r bx rfl
 generalize belA U = B at hBv hBl hBa
 have cw := con_xwords (wordsW 6) 6 63 words6
 have hWl : (wordsW 6).length = 127 := words6.len
 have hWi := words6_in
 generalize wordsW 6 = W at cw hWl hWi
 simp only [go_sem]
 refine CallU.free cw (by simp only [go_sem]) (by simp only [go_sem]) ?_
 rintro r bx rfl
 simp only [go_sem, List.length_map]
 refine LoopK.intro (fun i : Nat => ⟨122, [(4, .sl 0 2 (p.map vTm)), (5, .sl 0 2 (q.map vTm)), (6, .sl 0 1 (M.map vPr)), (8, vm 0 U), (9, .sl 0 1 (B.map vPr)), (61, vm 0 W), (62, vi W.length), (63, vi i)], [deckA l s5]⟩)
  (fun i => W.length - i) (fun i => i <= W.length) 0 (Nat.zero_le _) ?_ ?_
 ·simp only [go_sem]
 rintro i hi
 by_cases h : i < W.length
 case neg =>
  simp only [go_sem, h]
 have hg := getm h
 have hwi : IntKind.i64.wrap (i + 1) = i + 1 := wrap_in (by omega) (by omega)
 obtain ⟨k1, k2⟩ := hWi _ (mem_bang h)
 generalize W[i]! = w at hg k1 k2
 have hBa := hBa (v := w) k2
 have hMa := hMa w
 have cp := con_xHas 2 p w hV.lenP (by omega)
 have cq := con_xHas 2 q w hW.lenP (by omega)
 rw [has_valid hV (by omega) k2] at cp
 rw [has_valid hW (by omega) k2] at cq
 simp only [vPr] at cp cq
 simp only [go_sem, h, hg, List.length_map]
 refine LoopK.intro (fun j : Nat => ⟨122, [(4, .sl 0 2 (p.map vTm)), (5, .sl 0 2 (q.map vTm)), (6, .sl 0 1 (M.map vPr)), (8, vm 0 U), (9, .sl 0 1 (B.map vPr)), (61, vm 0 W), (62, vi W.length), (63, vi i), (12, vs 0 w), (13, vb (anyP (M.take j) w)), (14, vb false), (15, vb false), (67, .sl 0 1 (M.map vPr)), (68, vi M.length), (69, vi j)], [deckA l s5]⟩)
  (fun j => M.length - j) (fun j => j <= M.length) 0 (Nat.zero_le _) ?_ ?_
 ·simp only [go_sem, List.take_zero, any_nil]
 rintro j hj
 by_cases h2 : j < M.length
 case pos =>
  have hg2 := getPr h2
  have hwj : IntKind.i64.wrap (j + 1) = j + 1 := wrap_in (by omega) (by omega)
  have hv := hMv _ (mem_bangI h2)
  have cx := con_xHas 2 M[j]! w hv.lenP (by omega)
  rw [has_valid hv (by omega) k2] at cx
  have hst := any_stepP (w := w) h2
  simp only [vPr] at cx
  cases ha : anyP (M.take j) w with
  | true =>
   rw [ha, Bool.true_or] at hst
   simp only [go_sem, h2, hg2, hwj]
   refine roundK.intro (j + 1) (by omega) (by omega) ?_
   simp only [go_sem, hst]
  | false =>
   rw [ha, Bool.false_or] at hst
   simp only [go_sem, h2, hg2]
   refine CallU.free cx (by simp only [go_sem]) (by simp only [go_sem]) ?_
   rintro r bx rfl
   simp only [go_sem, hwj]
   refine roundK.intro (j + 1) (by omega) (by omega) ?_
   simp only [go_sem, hst]
 have e2 : M.take j = M := List.take_of_length_le (by omega)
 rw [e2, hMa]
 clear hMa e2 hj
 simp only [go_sem, h2, List.length_map]
 clear h2
 refine LoopK.intro (fun j : Nat => ⟨122, [(4, .sl 0 2 (p.map vTm)), (5, .sl 0 2 (q.map vTm)), (6, .sl 0 1 (M.map vPr)), (8, vm 0 U), (9, .sl 0 1 (B.map vPr)), (61, vm 0 W), (62, vi W.length), (63, vi i), (12, vs 0 w), (13, vb (memP p w && memP q w)), (14, vb (anyP (B.take j) w)), (15, vb false), (80, .sl 0 1 (B.map vPr)), (81, vi B.length), (82, vi j)], [deckA l s5]⟩)
  (fun j => B.length - j) (fun j => j <= B.length) 0 (Nat.zero_le _) ?_ ?_
 ·simp only [go_sem, List.take_zero, any_nil]
 clear j
 rintro j hj
 by_cases h2 : j < B.length
 case pos =>
  have hg2 := getPr h2
  have hwj : IntKind.i64.wrap (j + 1) = j + 1 := wrap_in (by omega) (by omega)
  have hv := hBv _ (mem_bangI h2)
  have cx := con_xHas 2 B[j]! w hv.lenP (by omega)
  rw [has_valid hv (by omega) k2] at cx
  have hst := any_stepP (w := w) h2
  simp only [vPr] at cx
  cases ha : anyP (B.take j) w with
  | true =>
   rw [ha, Bool.true_or] at hst
   simp only [go_sem, h2, hg2, hwj]
   refine roundK.intro (j + 1) (by omega) (by omega) ?_
   simp only [go_sem, hst]
  | false =>
   rw [ha, Bool.false_or] at hst
   simp only [go_sem, h2, hg2]
   refine CallU.free cx (by simp only [go_sem]) (by simp only [go_sem]) ?_
   rintro r bx rfl
   simp only [go_sem, hwj]
   refine roundK.intro (j + 1) (by omega) (by omega) ?_
   simp only [go_sem, hst]
 have e2 : B.take j = B := List.take_of_length_le (by omega)
 rw [e2, hBa]
 clear hBa e2 hj
 simp only [go_sem, h2, List.length_map]
 clear h2
 refine LoopK.intro (fun j : Nat => ⟨122, [(4, .sl 0 2 (p.map vTm)), (5, .sl 0 2 (q.map vTm)), (6, .sl 0 1 (M.map vPr)), (8, vm 0 U), (9, .sl 0 1 (B.map vPr)), (61, vm 0 W), (62, vi W.length), (63, vi i), (12, vs 0 w), (13, vb (memP p w && memP q w)), (14, vb (!U.any fun x => subB x w)), (15, vb ((U.take j).any fun x => subB x w)), (93, vm 0 U), (94, vi U.length), (95, vi j)], [deckA l s5]⟩)
  (fun j => U.length - j) (fun j => j <= U.length) 0 (Nat.zero_le _) ?_ ?_
 ·simp only [go_sem, List.take_zero, List.any_nil]
 clear j
 rintro j hj
 by_cases h2 : j < U.length
 case pos =>
  have hg2 := getm h2
  have hwj : IntKind.i64.wrap (j + 1) = j + 1 := wrap_in (by omega) (by omega)
  obtain ⟨u1, u2⟩ := hU _ (mem_bang h2)
  have cx := con_r02Leq U[j]! w (by omega) (by omega) u2 k2
  have hst := any_stepW (w := w) h2
  cases ha : (U.take j).any fun x => subB x w with
  | true =>
   rw [ha, Bool.true_or] at hst
   simp only [go_sem, h2, hg2, hwj]
   refine roundK.intro (j + 1) (by omega) (by omega) ?_
   simp only [go_sem, hst]
  | false =>
   rw [ha, Bool.false_or] at hst
   simp only [go_sem, h2, hg2]
   refine CallU.free cx (by simp only [go_sem]) (by simp only [go_sem]) ?_
   rintro r bx rfl
   simp only [go_sem, hwj]
   refine roundK.intro (j + 1) (by omega) (by omega) ?_
   simp only [go_sem, hst]
 have e2 : U.take j = U := List.take_of_length_le (by omega)
 rw [e2]
 clear e2 hj
 simp only [go_sem, h2]
 refine CallU.free cp (by simp only [go_sem]) (by simp only [go_sem]) ?_
 rintro r bx rfl
 cases hpw : memP p w with
 | false =>
  cases hab : U.any fun x => subB x w <;> (
   simp only [go_sem, hwi]
   refine roundK.intro (i + 1) (by omega) (by omega) ?_
   simp only [go_sem])
 | true =>
  simp only [go_sem]
  refine CallU.free cq (by simp only [go_sem]) (by simp only [go_sem]) ?_
  rintro r bx rfl
  cases hqw : memP q w <;> cases hab : U.any fun x => subB x w <;> (
   simp only [go_sem, hwi]
   refine roundK.intro (i + 1) (by omega) (by omega) ?_
   simp only [go_sem])
end Go.AM
