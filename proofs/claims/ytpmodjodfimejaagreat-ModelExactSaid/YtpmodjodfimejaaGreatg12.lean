/- GH GI GJ GK GL GM GN0 -/
import Derived.Test.YtpmodjodfimejaaGreatg11
import Derived.Test.YtpmodjodfimejaaGreatg8
namespace Go.AM
open Go Go.Proofs Go.RowKit
set_option maxRecDepth 100000
set_option maxHeartbeats 8000000
def beginsF (m : MD) : Bool := if m.kind = 6 then m.start.n == 0 && m.start.kids.length == 0 else validV (typeM m) m.start
def beginsTree : Tr := .front 2 (.alt (.one 0 (.alt (.one 1 (.one 3 (.one 4 (.one 5 .done)))) (.one 3 (.one 1 (.one 4 (.one 5 .done)))))) (.one 3 (.one 0 (.one 1 (.one 4 (.one 5 .done))))))
theorem TD.Ok.leaf {k s : Int} {r : List Int} (h : r.length <= 1000000) : (TD.mk k s r []).Ok := .mk _ _ _ _ h (by simp) (fun x hx => by cases hx)
theorem TD.Ok.parts1 {k s : Int} {l : List TD} (hl : l.length <= 1000000) (h : ∀ x ∈ l, x.Ok) : (TD.mk k s [] l).Ok := .mk _ _ _ _ (by simp) hl h
theorem label_ok (n : Int) : (labelT n).Ok := .leaf (by simp)
theorem list_ok {k : Int} {t : TD} (h : t.Ok) : (listT k t).Ok := .parts1 (by simp) (fun x hx => by rw [List.mem_singleton] at hx; subst hx; exact h)
theorem prod_ok {l : List TD} (hl : l.length <= 1000000) (h : ∀ x ∈ l, x.Ok) : (prodT l).Ok := .parts1 hl h
theorem two_ok {a b : TD} (ha : a.Ok) (hb : b.Ok) : (prodT [a, b]).Ok := prod_ok (by simp) fun x hx => by
 simp only [List.mem_cons, List.not_mem_nil, or_false] at hx
 rcases hx with rfl | rfl <;> assumption
theorem nodes_ok (a : Int) : ∀ n, (nodesT a n).Ok
 | 0 => list_ok (label_ok a)
 | 1 => list_ok (label_ok a)
 | n + 2 => list_ok (two_ok (label_ok a) (nodes_ok a (n + 1)))
theorem type_ok {m : MD} (h : SizeM m) (hp : m.places.length <= 999999) : (typeM m).Ok := by
 unfold typeM partsM
 refine prod_ok ?_ fun x hx => ?_
 ·rw [List.length_cons]
  split
  ·simp
  ·split
   ·simp
   ·rw [List.length_replicate]; omega
 ·rcases List.mem_cons.1 hx with rfl | hx
  ·exact label_ok _
  ·split at hx
   ·rw [List.mem_singleton] at hx; subst hx; exact nodes_ok _ _
   ·split at hx
    ·rw [List.mem_singleton] at hx; subst hx; exact list_ok (two_ok (label_ok _) (label_ok _))
    ·rw [List.eq_of_mem_replicate hx]
     unfold placeT
     split
     ·exact list_ok (label_ok _)
     ·split
      ·exact .leaf h.ranks
      ·exact .leaf (by simp)
theorem con_typedG (m : MD) (h : SizeM m) : Con Tryz.prog 85 [vM m] [] fun r _ => r = vT (typeM m) := by
 by_cases h4 : m.kind = 4
 ·refine ((con_typed4 m h h4).freezeR fun _ => true).weak fun r b ⟨r1, h3, h6⟩ => ?_
  subst h3; subst h6
  refine ⟨_, rfl, ?_⟩
  have e : typeM m = .mk 3 0 [] [labelT m.states.length, nodesT m.letters.length m.levels.toNat] := by unfold typeM partsM prodT; rw [if_pos h4]
  rw [e]
  exact vT_parts 3 0 [labelT m.states.length, nodesT m.letters.length m.levels.toNat]
 by_cases h5 : m.kind = 5
 ·refine ((con_typed5 m h h5).freezeR fun _ => true).weak fun r b ⟨r1, h3, h6⟩ => ?_
  subst h3; subst h6
  refine ⟨_, rfl, ?_⟩
  have e : typeM m = .mk 3 0 [] [labelT m.states.length, listT 5 (prodT [labelT m.places.length, labelT (m.age + 2)])] := by unfold typeM partsM prodT; rw [if_neg h4, if_pos h5]
  rw [e]
  exact vT_parts 3 0 [labelT m.states.length, listT 5 (prodT [labelT m.places.length, labelT (m.age + 2)])]
 exact con_typedA m h h4 h5
theorem con_beginsG (m : MD) (h : SizeM m) (hp : m.places.length <= 999999) (hs : m.start.Ok) : Con Tryz.prog 71 [vM m] [] fun r _ => r = vb (beginsF m) := by
 refine Con.intro Tryz.func71 rfl Tryz.ntmps71 Tryz.results71 (by kernel_rfl) (by simp) 1 (by simp) ?_
 unfold beginsF
 by_cases h6 : m.kind = 6
 ·have b6 : (m.kind == 6) = true := beq_iff_eq.2 h6
  have hz : ((m.start.kids.length : Int) == 0) = (m.start.kids.length == 0) := zero_len _
  rw [if_pos h6]
  cases h0 : m.start.n == 0
  ·simp only [go_sem, cM, vss, b6, h0, Bool.false_and]
  ·simp only [go_sem, cM, vss, b6, h0, hz, List.length_map, Bool.true_and]
 have b6 : (m.kind == 6) = false := beq_eq_false_iff_ne.2 h6
 rw [if_neg h6]
 have ct := con_typedG m h
 have cv := con_oValid (typeM m) m.start (type_ok h hp) hs
 have e1 := vT_eq (typeM m)
 rw [e1] at ct cv
 rw [vV_eq] at cv
 simp only [go_sem, cM, vss, b6]
 refine DrawK.meet ⟨22, [(1, .pb 0 0), (2, vb (validV (typeM m) m.start))], [cM m]⟩ ?_ ?_
 ·refine DrawK.tree beginsTree mixed (by kernel_rfl) ?_
  unfold beginsTree
  repeat' (first | with_reducible apply andK_mk | (refine CallU.free ct (by simp only [go_sem]) ?_ ?_; (· (simp only [go_sem, vM, cM, vss]; done)); rintro x bx rfl) | (refine CallU.free cv (by simp only [go_sem]) ?_ ?_; (· (simp only [go_sem]; done)); rintro x bx rfl) | simp only [go_sem, cM, vss])
 ·simp only [go_sem]
structure LenM (m : MD) : Prop where
 names : (namesOf m).length <= 1000000
 sizes : ∀ s ∈ namesOf m, s.size <= 9223372036854775806
 ranks : m.ranks.length <= 1000000
 rules : ∀ r ∈ m.rules, LenR r
 start : m.start.Ok
def checkF (m : MD) : Int :=
 if betweenB m.kind 1 6 = false then 15 else if sizedB m = false then 1 else if rankedB m = false then 14 else if namesB (namesOf m) = false then 13
 else if (m.rules.any fun r => !rightR m r) = true then 16 else if beginsF m = false then 17 else 0
theorem names_lens {m : MD} (h : LenM m) : m.states.length <= 1000000 /\ m.places.length <= 1000000 /\ m.letters.length <= 1000000 /\ m.rules.length <= 1000000 := by
 have := h.names
 unfold namesOf at this
 simp only [List.length_append, List.length_map] at this
 omega
theorem sized_lim {m : MD} (h : sizedB m = true) : 1 <= m.states.length /\ (m.kind = 4 -> 0 <= m.levels /\ m.levels <= 100) /\ (m.kind = 5 -> 0 <= m.age /\ m.age <= 100) /\ (m.kind = 3 -> 1 <= m.letters.length) := by
 unfold sizedB betweenB at h
 simp only [Bool.and_eq_true, decide_eq_true_eq] at h
 obtain ⟨⟨⟨⟨⟨h1, h2⟩, h3⟩, h4⟩, h5⟩, h6⟩ := h
 refine ⟨by omega, fun hk => ?_, fun hk => ?_, fun hk => ?_⟩
 ·rw [hk] at h5
  have : lim 4 4 = 1 /\ lim 4 5 = 2 := by decide
  omega
 ·rw [hk] at h6
  have : lim 5 6 = 0 /\ lim 5 7 = 3 := by decide
  omega
 ·rw [hk] at h4
  have : lim 3 2 = 1 := by decide
  omega
theorem sized_size {m : MD} (h : LenM m) (hs : sizedB m = true) (hr : rankedB m = true) : SizeM m /\ m.places.length <= 999999 := by
 have hl := names_lens h
 have hz := sized_lim hs
 refine ⟨⟨hl.1, hl.2.1, hl.2.2.1, h.ranks, hz.2.1, hz.2.2.1, fun hk => ?_⟩, ?_⟩
 ·unfold rankedB at hr
  rw [if_pos hk, Bool.and_eq_true, decide_eq_true_eq] at hr
  have := hz.2.2.2 hk
  omega
 ·unfold sizedB betweenB at hs
  simp only [Bool.and_eq_true, decide_eq_true_eq] at hs
  have h3 := hs.1.1.1.2.2
  have hlim : ∀ k : Int, lim k 1 <= 6 := fun k => by
   unfold lim limF
   split
   ·decide
   ·split
    ·decide
    ·split <;> decide
  have := hlim m.kind
  omega
theorem con_check1G (m : MD) (r : RD) (h : RightM m) (hr : LenR r) : Con Tryz.prog 69 [vRule r, .fp (cM m) 0] [] fun x _ => x = .sc (.bool (!rightR m r)) := by
 refine Con.intro Tryz.func69 rfl Tryz.ntmps69 Tryz.results69 (by kernel_rfl) (by simp) 1 (by simp) ?_
 simp only [go_sem]
 refine CallU.free (con_rightG m r h hr) (by simp only [go_sem]) (by simp only [go_sem]) ?_
 rintro x bx rfl
 simp only [go_sem]
theorem con_CheckG (m : MD) (h : LenM m) : Con Tryz.prog 21 [vM m] [] fun r _ => r = vi (checkF m) := by
 refine Con.intro Tryz.func21 rfl Tryz.ntmps21 Tryz.results21 (by kernel_rfl) (by simp) 1 (by simp) ?_
 have hl := names_lens h
 unfold checkF
 simp only [go_sem]
 refine CallU.free (con_between m.kind 1 6) (by simp only [go_sem]) (by simp only [go_sem]) ?_
 rintro r bx rfl
 cases h1 : betweenB m.kind 1 6
 ·simp only [go_sem, if_true]
 simp only [go_sem, if_false]
 refine CallU.free (con_sized m) (by simp only [go_sem]) (by simp only [go_sem]) ?_
 rintro r bx rfl
 cases h2 : sizedB m
 ·simp only [go_sem, if_true]
 simp only [go_sem, if_false]
 refine CallU.free (con_ranked m (by have := h.ranks; omega)) (by simp only [go_sem]) (by simp only [go_sem]) ?_
 rintro r bx rfl
 cases h3 : rankedB m
 ·simp only [go_sem, if_true]
 have hz := sized_lim h2
 have hsz := sized_size h h2 h3
 have hRM : RightM m := ⟨hl.1, hl.2.1, hl.2.2.1, fun hk => by have := hz.2.2.1 hk; omega⟩
 simp only [go_sem, if_false]
 refine CallU.free (con_named m hz.1 h.names h.sizes) (by simp only [go_sem]) (by simp only [go_sem]) ?_
 rintro r bx rfl
 cases h4 : namesB (namesOf m)
 ·simp only [go_sem, if_true]
 simp only [go_sem, if_false]
 refine CallU.look (con_containsRule m.rules 69 [.fp (cM m) 0] (fun r => !rightR m r) (by simp only [go_sem]) (fun r hr => con_check1G m r hRM (h.rules r hr)) (by omega)) (by simp only [go_sem]) (by simp only [go_sem]) ?_
 rintro r bx rfl
 cases h5 : m.rules.any fun r => !rightR m r
 case true => simp only [go_sem, if_true]
 simp only [go_sem, if_false]
 refine CallU.free (con_beginsG m hsz.1 hsz.2 h.start) (by simp only [go_sem]) (by simp only [go_sem]) ?_
 rintro r bx rfl
 cases h6 : beginsF m
 ·simp only [go_sem, if_true]
 ·simp only [go_sem, Bool.true_eq_false, if_false]
def confG (m : MD) (c : CV) : Bool := decide (checkF m = 0) && validV (typeM m) c
theorem checkF_zero {m : MD} (h : checkF m = 0) : betweenB m.kind 1 6 = true /\ sizedB m = true /\ rankedB m = true /\ namesB (namesOf m) = true /\ (∀ r ∈ m.rules, rightR m r = true) /\ beginsF m = true := by
 unfold checkF at h
 cases h1 : betweenB m.kind 1 6 <;> simp only [h1, if_true, Bool.true_eq_false, if_false] at h
 ·omega
 cases h2 : sizedB m <;> simp only [h2, if_true, Bool.true_eq_false, if_false] at h
 ·omega
 cases h3 : rankedB m <;> simp only [h3, if_true, Bool.true_eq_false, if_false] at h
 ·omega
 cases h4 : namesB (namesOf m) <;> simp only [h4, if_true, Bool.true_eq_false, if_false] at h
 ·omega
 cases h5 : m.rules.any fun r => !rightR m r <;> simp only [h5, if_true, Bool.false_eq_true, if_false] at h
 ·cases h6 : beginsF m <;> simp only [h6, if_true, Bool.true_eq_false, if_false] at h
  ·omega
  ·refine ⟨rfl, rfl, rfl, rfl, fun r hr => ?_, rfl⟩
   have := List.any_eq_false.1 h5 r hr
   simpa using this
 ·omega
theorem checkF_ne {m : MD} (h : checkF m ≠ 0) : (checkF m == 0) = false := beq_eq_false_iff_ne.2 h
theorem con_ValidG (m : MD) (c : CV) (h : LenM m) (hc : c.Ok) : Con Tryz.prog 37 [vM m, vV c] [] fun r _ => r = vb (confG m c) := by
 have e0 := vV_eq c
 have cc := con_CheckG m h
 by_cases h0 : checkF m = 0
 ·have hz := checkF_zero h0
  have hsz := sized_size h hz.2.1 hz.2.2.1
  have ct := con_typedG m hsz.1
  have cv := con_oValid (typeM m) c (type_ok hsz.1 hsz.2) hc
  have e1 := vT_eq (typeM m)
  have hg : confG m c = validV (typeM m) c := by unfold confG; rw [decide_eq_true h0, Bool.true_and]
  rw [h0] at cc
  rw [e1] at ct cv
  rw [hg]
  rw [e0] at cv ⊢
  refine Con.intro Tryz.func37 rfl Tryz.ntmps37 Tryz.results37 (by kernel_rfl) (by simp) 2 (by simp) ?_
  simp only [go_sem]
  refine DrawK.walk 10 mixed (by kernel_rfl) ?_
  simp only [go_sem]
  refine CallY.mk cc (by simp only [go_sem, vM, cM, vss]) (by simp only [go_sem]) (.inl (by simp only [go_sem])) ?_
  simp only [go_sem]
  refine CallY.mk ct (by simp only [go_sem, vM, cM, vss]) (by simp only [go_sem]) (.inl (by simp only [go_sem])) ?_
  simp only [go_sem]
  refine CallY.mk cv (by simp only [go_sem]) (by simp only [go_sem]) (.inr (by simp only [go_sem])) ?_
  simp only [go_sem]
 ·have hg : confG m c = false := by unfold confG; rw [decide_eq_false h0, Bool.false_and]
  have hn := checkF_ne h0
  rw [hg, e0]
  refine Con.intro Tryz.func37 rfl Tryz.ntmps37 Tryz.results37 (by kernel_rfl) (by simp) 1 (by simp) ?_
  simp only [go_sem]
  refine DrawK.walk 10 mixed (by kernel_rfl) ?_
  simp only [go_sem]
  refine CallY.mk cc (by simp only [go_sem, vM, cM, vss]) (by simp only [go_sem]) (.inl (by simp only [go_sem])) ?_
  simp only [go_sem, hn]
theorem limF_1 : limF 1 = [1, 6, 0, 0, 0, 0, 0, 0] := rfl
theorem limF_2 : limF 2 = [1, 2, 1, 6, 0, 0, 0, 0] := rfl
theorem limF_3 : limF 3 = [1, 2, 1, 6, 0, 0, 0, 0] := rfl
theorem limF_4 : limF 4 = [0, 0, 1, 6, 1, 2, 0, 0] := rfl
theorem limF_5 : limF 5 = [1, 6, 0, 0, 0, 0, 0, 3] := rfl
theorem limF_6 : limF 6 = [1, 6, 0, 0, 0, 0, 0, 0] := rfl
theorem between_zero (x : Int) : betweenB x 0 0 = (x == 0) := by
 unfold betweenB
 rw [Bool.eq_iff_iff]
 simp only [Bool.and_eq_true, decide_eq_true_eq, beq_iff_eq]
 omega
theorem kind_cases {k : Int} (h : betweenB k 1 6 = true) : k = 1 \/ k = 2 \/ k = 3 \/ k = 4 \/ k = 6 \/ k = 5 := by
 unfold betweenB at h
 simp only [Bool.and_eq_true, decide_eq_true_eq] at h
 omega
theorem con_rnumbersG (m : MD) (hb : betweenB m.kind 1 6 = true) : Con Tryz.prog 73 [vM m] [] fun r _ => r = vb (sizedB m) := by
 refine Con.intro Tryz.func73 rfl Tryz.ntmps73 Tryz.results73 (by kernel_rfl) (by simp) 0 (by simp) ?_
 have b1 := con_rbetween m.states.length 1 8
 have b2 := con_rbetween m.places.length (lim m.kind 0) (lim m.kind 1)
 have b3 := con_rbetween m.letters.length (lim m.kind 2) (lim m.kind 3)
 have b4 := con_rbetween m.levels (lim m.kind 4) (lim m.kind 5)
 have b5 := con_rbetween m.age 0 3
 unfold sizedB vM cM
 rcases kind_cases hb with hk | hk | hk | hk | hk | hk
 all_goals
  simp only [hk, lim, limF_1, limF_2, limF_3, limF_4, limF_5, limF_6, List.getD_cons_zero, List.getD_cons_succ] at b2 b3 b4 ⊢
  simp only [go_sem, vss, List.length_map]
  refine CallU.free b1 (by simp only [go_sem]) (by simp only [go_sem]) ?_
  rintro r bx rfl
  cases h1 : betweenB m.states.length 1 8
  ·simp only [go_sem, Bool.false_and]
  rw [Bool.true_and]
  simp only [go_sem, List.length_map]
  refine CallU.free b2 (by simp only [go_sem]) (by simp only [go_sem]) ?_
  rintro r bx rfl
  rw [Bool.and_comm (decide _) (betweenB _ _ _)]
  generalize betweenB m.places.length _ _ = p2
  cases p2
  ·simp only [go_sem, Bool.false_and]
  rw [Bool.true_and]
  by_cases h4 : (12 : Int) < m.rules.length
  ·have h5 : ¬ m.rules.length <= 12 := by omega
   simp only [go_sem, List.length_map, h4, h5, decide_false, Bool.false_and]
  have h5 : m.rules.length <= 12 := by omega
  rw [decide_eq_true h5, Bool.true_and]
  simp only [go_sem, List.length_map, h4]
  refine CallU.free b3 (by simp only [go_sem]) (by simp only [go_sem]) ?_
  rintro r bx rfl
  generalize betweenB m.letters.length _ _ = p3
  cases p3
  ·simp only [go_sem, Bool.false_and]
  rw [Bool.true_and]
  simp only [go_sem]
  refine CallU.free b4 (by simp only [go_sem]) (by simp only [go_sem]) ?_
  rintro r bx rfl
  generalize betweenB m.levels _ _ = p4
  cases p4
  ·simp only [go_sem, Bool.false_and]
  rw [Bool.true_and]
  simp only [go_sem]
 ·rw [between_zero]
 ·rw [between_zero]
 ·rw [between_zero]
 ·rw [between_zero]
 ·rw [between_zero]
 ·refine CallU.free b5 (by simp only [go_sem]) (by simp only [go_sem]) ?_
  rintro r bx rfl
  simp only [go_sem]
theorem all_bad {α : Type} [Inhabited α] {l : List α} {p : α -> Bool} {i : Nat} (h : i < l.length) (hb : p l[i]! = false) : l.all p = false := by
 rw [List.all_eq_false]
 refine ⟨l[i]!, ?_, by rw [hb]; simp⟩
 rw [getElem!_pos l i h]; exact List.getElem_mem h
theorem all_ok {α : Type} [Inhabited α] {l : List α} {p : α -> Bool} (h : ∀ i, i < l.length -> p l[i]! = true) : l.all p = true := by
 rw [List.all_eq_true]
 intro x hx
 obtain ⟨i, hi, rfl⟩ := List.getElem_of_mem hx
 have := h i hi
 rwa [getElem!_pos l i hi] at this
theorem con_rranksG (m : MD) (hl : m.ranks.length <= 1000000) : Con Tryz.prog 74 [vM m] [] fun r _ => r = vb (rankedB m) := by
 refine Con.intro Tryz.func74 rfl Tryz.ntmps74 Tryz.results74 (by kernel_rfl) (by simp) 0 (by simp) ?_
 unfold rankedB
 by_cases k3 : m.kind = 3
 case neg =>
  have b3 : (m.kind != 3) = true := bne_iff_ne.2 k3
  have hz : ((m.ranks.length : Int) == 0) = (m.ranks.length == 0) := zero_len _
  rw [if_neg k3]
  simp only [go_sem, vM, cM, vss, b3, hz, List.length_map]
 rw [if_pos k3]
 have b3 : (m.kind != 3) = false := by rw [k3]; rfl
 by_cases hq : m.ranks.length = m.letters.length
 case neg =>
  have hq' : ((m.ranks.length : Int) != (m.letters.length : Int)) = true := bne_iff_ne.2 (by omega)
  rw [decide_eq_false hq, Bool.false_and]
  simp only [go_sem, vM, cM, vss, b3, hq', List.length_map]
 have hq' : ((m.ranks.length : Int) != (m.letters.length : Int)) = false := by
  rw [hq]; simp
 rw [decide_eq_true hq, Bool.true_and]
 simp only [go_sem, vM, cM, vss, b3, hq', List.length_map]
 refine LoopK.intro (fun i : Nat => ⟨32, [(1, .pb 0 0), (2, vb false), (3, vi i)], [[vi m.kind, .sl 0 1 (m.states.map vStr), .sl 0 1 (m.places.map vStr), .sl 0 1 (m.letters.map vStr), vs 0 m.ranks, vi m.levels, vi m.age, .sl 0 14 (m.rules.map vRule), vi m.start.n, .sl 0 2 (m.start.kids.map vV)]]⟩)
  (fun i => m.ranks.length - i) (fun i => i <= m.ranks.length /\ ∀ j, j < i -> betweenB m.ranks[j]! 0 5 = true) 0 ⟨by omega, fun j hj => by omega⟩ ?_ ?_
 ·simp only [go_sem, vs]
 rintro i ⟨hi, hj⟩
 by_cases h : i < m.ranks.length
 ·have hg := getv h
  have hw : IntKind.i64.wrap (i + 1) = i + 1 := wrap_in (by omega) (by omega)
  simp only [go_sem, h, hg]
  refine CallU.free (con_rbetween m.ranks[i]! 0 5) (by simp only [go_sem]) (by simp only [go_sem]) ?_
  rintro r bx rfl
  cases hc : betweenB m.ranks[i]! 0 5
  ·have hb := all_bad (p := fun r => betweenB r 0 5) h hc
   rw [hb]
   simp only [go_sem]
  simp only [go_sem, hw]
  refine roundK.intro (i + 1) ⟨by omega, fun j hj2 => ?_⟩ (by omega) ?_
  ·by_cases e : j = i
   ·rw [e]; exact hc
   ·exact hj j (by omega)
  simp only [go_sem]
 ·have hb := all_ok (l := m.ranks) (p := fun r => betweenB r 0 5) fun j hj2 => hj j (by omega)
  rw [hb]
  simp only [go_sem, h]
theorem con_rwordG (s : ByteArray) (hs : s.size <= 9223372036854775806) : Con Tryz.prog 126 [vStr s] [] fun r _ => r = vb (wordB s) := by
 refine Con.intro Tryz.func126 rfl Tryz.ntmps126 Tryz.results126 (by kernel_rfl) (by simp) 0 (by simp) ?_
 unfold wordB
 rw [ByteArray.toList_eq]
 simp only [go_sem]
 refine LoopK.intro (fun i : Nat => ⟨33, [(0, vStr s), (3, vi i)], []⟩) (fun i => s.size - i) (fun i => i <= s.size /\ ∀ j, j < i -> partB s.data.toList[j]! = true) 0 ⟨by omega, fun j hj => by omega⟩ ?_ ?_
 ·simp only [go_sem]
 rintro i ⟨hi, hj⟩
 by_cases h : i < s.size
 ·have hg := ba_get h
  have hw : IntKind.i64.wrap (i + 1) = i + 1 := wrap_in (by omega) (by omega)
  have h5 : i < s.data.toList.length := by rw [ba_len]; exact h
  simp only [go_sem, h, hg]
  refine CallU.free (con_rletter s.data.toList[i]!) (by simp only [go_sem]) (by simp only [go_sem]) ?_
  rintro r bx rfl
  cases hc : partB s.data.toList[i]!
  ·have hb := all_bad (p := partB) h5 hc
   rw [hb, Bool.and_false]
   simp only [go_sem]
  simp only [go_sem, hw]
  refine roundK.intro (i + 1) ⟨by omega, fun j hj2 => ?_⟩ (by omega) ?_
  ·by_cases e : j = i
   ·rw [e]; exact hc
   ·exact hj j (by omega)
  simp only [go_sem]
 ·have hb := all_ok (l := s.data.toList) (p := partB) fun j hj2 => hj j (by rw [ba_len] at hj2; omega)
  rw [hb, Bool.and_true]
  by_cases h1 : 0 < s.size
  ·have e0 : s.get! 0 = s.data.toList[0]! := by
    have h5 : 0 < s.data.toList.length := by rw [ba_len]; exact h1
    rw [getElem!_pos s.data.toList 0 h5, Array.getElem_toList]
    show s.data[0]! = _
    rw [getElem!_pos s.data 0 h1]
   have hg := ba_get h1
   have g1 : (1 : Int) <= (s.size : Int) := by omega
   rw [e0, letterB_eq, decide_eq_true h1, Bool.true_and]
   by_cases h2 : s.size <= 12
   ·have g2 : (s.size : Int) <= 12 := by omega
    rw [decide_eq_true h2, Bool.true_and]
    by_cases h3 : (97 : Int) <= (s.data.toList[0]!.toNat : Int) <;> by_cases h4 : (s.data.toList[0]!.toNat : Int) <= 122 <;>
     simp only [go_sem, h, hg, g1, g2, h3, h4, decide_true, decide_false, Bool.and_true, Bool.and_false]
   ·have g2 : ¬ (s.size : Int) <= 12 := by omega
    rw [decide_eq_false h2, Bool.false_and]
    simp only [go_sem, h, g1, g2]
  ·have g1 : ¬ (1 : Int) <= (s.size : Int) := by omega
   rw [decide_eq_false h1, Bool.false_and, Bool.false_and]
   simp only [go_sem, h, g1]
theorem con_rkeywordG (s : ByteArray) : Con Tryz.prog 127 [vStr s] [] fun r _ => r = vb (keywordB s) := by
 cases hk : keywordB s
 ·exact con_rkeyword s hk
 have hq : ∃ i, i < kwL.length /\ (kwL[i]!.toList == s.toList) = true := by
  unfold keywordB at hk
  obtain ⟨x, hx, he⟩ := List.any_eq_true.1 hk
  obtain ⟨i, hi, rfl⟩ := List.getElem_of_mem hx
  refine ⟨i, hi, ?_⟩
  rw [getElem!_pos kwL i hi]
  rw [beq_iff_eq] at he ⊢
  exact he.symm
 obtain ⟨k, hk1, hk2⟩ := hq
 refine Con.intro Tryz.func127 rfl Tryz.ntmps127 Tryz.results127 (by kernel_rfl) (by simp) 0 (by simp) ?_
 simp only [go_sem]
 refine LoopK.intro (fun i : Nat => ⟨18, [(0, vStr s), (3, .sl 384 1 (kwL.map vStr)), (4, vi i)], []⟩) (fun i => 18 - i) (fun i => i <= k) 0 (by omega) ?_ ?_
 ·simp only [go_sem, kwL, List.map_cons, List.map_nil]
 rintro i hi
 have h18 : i < 18 := by rw [kwL_len] at hk1; omega
 have hl : i < kwL.length := by omega
 have hg := getStr hl
 have hw : IntKind.i64.wrap (i + 1) = i + 1 := wrap_in (by omega) (by omega)
 cases hn : kwL[i]!.toList == s.toList
 ·have : i ≠ k := by intro e; rw [e, hk2] at hn; cases hn
  simp only [go_sem, kwL_len, h18, hg, hn, hw]
  refine roundK.intro (i + 1) (by omega) (by omega) ?_
  simp only [go_sem]
 ·simp only [go_sem, kwL_len, h18, hg, hn]
theorem okN_dup {l : List ByteArray} {i k : Nat} (hi : i < l.length) (hk : k < i) (he : (l[k]!.toList == l[i]!.toList) = true) : okN l i = false := by
 rw [ba_eq, beq_iff_eq] at he
 have h3 : l[i]!.data.toList ∈ (l.take i).map fun s => s.data.toList := by
  refine List.mem_map.2 ⟨l[k]!, ?_, he⟩
  rw [getElem!_pos l k (by omega)]
  exact List.mem_of_getElem? (i := k) (by rw [List.getElem?_take, if_pos hk]; simp)
 unfold okN
 rw [List.contains_iff_mem.2 h3, Bool.not_true, Bool.and_false]
theorem okN_new {l : List ByteArray} {i : Nat} (hi : i < l.length) (hw : wordB l[i]! = true) (hk : keywordB l[i]! = false) (hn : ∀ k, k < i -> (l[k]!.toList == l[i]!.toList) = false) : okN l i = true := by
 unfold okN
 rw [hw, hk, Bool.not_false, Bool.true_and, Bool.true_and, Bool.not_eq_true', <- Bool.not_eq_true]
 intro h
 obtain ⟨x, hx, he⟩ := List.mem_map.1 (List.contains_iff_mem.1 h)
 obtain ⟨k, hk2, rfl⟩ := List.getElem_of_mem hx
 rw [List.length_take] at hk2
 have h2 := hn k (by omega)
 rw [ba_eq, beq_eq_false_iff_ne] at h2
 apply h2
 rw [<- he, List.getElem_take, getElem!_pos l k (by omega)]
theorem okN_word {l : List ByteArray} {i : Nat} (hw : wordB l[i]! = false) : okN l i = false := by unfold okN; rw [hw, Bool.false_and, Bool.false_and]
theorem okN_keyword {l : List ByteArray} {i : Nat} (hk : keywordB l[i]! = true) : okN l i = false := by unfold okN; rw [hk, Bool.not_true, Bool.and_false, Bool.false_and]
theorem con_rnamesG (m : MD) (h1 : 1 <= m.states.length) (h2 : (namesOf m).length <= 1000000) (hs : ∀ s ∈ namesOf m, s.size <= 9223372036854775806) : Con Tryz.prog 75 [vM m] [] fun r _ => r = vb (namesB (namesOf m)) := by
 refine Con.intro Tryz.func75 rfl Tryz.ntmps75 Tryz.results75 (by kernel_rfl) (by simp) 0 (by simp) ?_
 have h2' := h2
 unfold namesOf at h2'
 simp only [List.length_append, List.length_map] at h2'
 have r1 : roomFor m.states.length 16 := by simp only [roomFor]; omega
 have r2 : roomFor (m.states.length + m.places.length) 16 := by simp only [roomFor]; omega
 have r3 : roomFor (m.states.length + m.places.length + m.letters.length) 16 := by simp only [roomFor]; omega
 have e0 : namesTo m 0 = m.states ++ m.places ++ m.letters := by rw [namesTo_zero]
 unfold vM cM
 simp only [go_sem, vss]
 refine DrawK.meet ⟨65, [(1, .pb 0 0), (2, vb false), (3, .sl 640 1 ((namesTo m 0).map vStr))], [[vi m.kind, .sl 0 1 (m.states.map vStr), .sl 0 1 (m.places.map vStr), .sl 0 1 (m.letters.map vStr), vs 0 m.ranks, vi m.levels, vi m.age, .sl 0 14 (m.rules.map vRule), vi m.start.n, .sl 0 2 (m.start.kids.map vV)]]⟩ ?_ ?_
 ·refine DrawK.tree namesTree mixed (by kernel_rfl) ?_
  unfold namesTree
  rw [e0, List.map_append, List.map_append]
  repeat' (first | with_reducible apply andK_mk | simp only [go_sem, List.length_map, List.length_append, r1, r2, r3])
 ·simp only [go_sem]
  refine LoopK.intro (fun i : Nat => ⟨65, [(1, .pb 0 0), (2, vb false), (3, .sl 640 1 ((namesTo m i).map vStr)), (4, vi i)], [[vi m.kind, .sl 0 1 (m.states.map vStr), .sl 0 1 (m.places.map vStr), .sl 0 1 (m.letters.map vStr), vs 0 m.ranks, vi m.levels, vi m.age, .sl 0 14 (m.rules.map vRule), vi m.start.n, .sl 0 2 (m.start.kids.map vV)]]⟩)
   (fun i => m.rules.length - i) (fun i => i <= m.rules.length) 0 (by omega) ?_ ?_
  ·simp only [go_sem]
  rintro i hi
  have hn := namesTo_len (m := m) (i := i)
  by_cases hlt : i < m.rules.length
  ·have hg := getRule hlt
   have hw : IntKind.i64.wrap (i + 1) = i + 1 := wrap_in (by omega) (by omega)
   have e := namesTo_succ hlt
   have hr : roomFor ((namesTo m i).length + 1) 16 := by simp only [roomFor]; omega
   simp only [go_sem, hlt, hg, hw, hr]
   refine roundK.intro (i + 1) (by omega) (by omega) ?_
   simp only [go_sem, e, List.map_append, List.map_cons, List.map_nil]
  obtain rfl : i = m.rules.length := by omega
  rw [namesTo_all]
  simp only [go_sem, hlt]
  generalize namesOf m = l at *
  refine LoopK.intro (fun i : Nat => ⟨65, [(1, .pb 0 0), (2, vb false), (3, .sl 640 1 (l.map vStr)), (5, vi i)], [[vi m.kind, .sl 0 1 (m.states.map vStr), .sl 0 1 (m.places.map vStr), .sl 0 1 (m.letters.map vStr), vs 0 m.ranks, vi m.levels, vi m.age, .sl 0 14 (m.rules.map vRule), vi m.start.n, .sl 0 2 (m.start.kids.map vV)]]⟩)
   (fun i => l.length - i) (fun i => i <= l.length /\ ∀ j, j < i -> okN l j = true) 0 ⟨by omega, fun j hj => by omega⟩ ?_ ?_
  ·simp only [go_sem]
  rintro i ⟨hi, hok⟩
  by_cases hlt2 : i < l.length
  ·have hg := getStr hlt2
   have hw : IntKind.i64.wrap (i + 1) = i + 1 := wrap_in (by omega) (by omega)
   have hsz : l[i]!.size <= 9223372036854775806 := hs _ (by rw [getElem!_pos l i hlt2]; exact List.getElem_mem hlt2)
   simp only [go_sem, hlt2, hg]
   refine CallU.free (con_rwordG l[i]! hsz) (by simp only [go_sem]) (by simp only [go_sem]) ?_
   rintro r bx rfl
   cases hwd : wordB l[i]!
   ·have hb := names_bad hlt2 (okN_word hwd)
    rw [hb]
    simp only [go_sem]
   simp only [go_sem, hlt2, hg]
   refine CallU.free (con_rkeywordG l[i]!) (by simp only [go_sem]) (by simp only [go_sem]) ?_
   rintro r bx rfl
   cases hky : keywordB l[i]!
   case true =>
    have hb := names_bad hlt2 (okN_keyword hky)
    rw [hb]
    simp only [go_sem]
   simp only [go_sem]
   refine LoopK.intro (fun k : Nat => ⟨65, [(1, .pb 0 0), (2, vb false), (3, .sl 640 1 (l.map vStr)), (5, vi i), (6, vi k)], [[vi m.kind, .sl 0 1 (m.states.map vStr), .sl 0 1 (m.places.map vStr), .sl 0 1 (m.letters.map vStr), vs 0 m.ranks, vi m.levels, vi m.age, .sl 0 14 (m.rules.map vRule), vi m.start.n, .sl 0 2 (m.start.kids.map vV)]]⟩)
    (fun k => i - k) (fun k => k <= i /\ ∀ j, j < k -> (l[j]!.toList == l[i]!.toList) = false) 0 ⟨by omega, fun j hj => by omega⟩ ?_ ?_
   ·simp only [go_sem]
   rintro k ⟨hk, hks⟩
   by_cases hki : k < i
   ·have hkl : k < l.length := by omega
    have hgk := getStr hkl
    have hwk : IntKind.i64.wrap (k + 1) = k + 1 := wrap_in (by omega) (by omega)
    cases hne : l[k]!.toList == l[i]!.toList
    case true =>
     have hb := names_bad hlt2 (okN_dup hlt2 hki hne)
     rw [hb]
     simp only [go_sem, hki]
     refine DrawK.walk 9 mixed (by kernel_rfl) ?_
     simp only [go_sem, hlt2, hkl, hg, hgk, hne]
    simp only [go_sem, hki]
    refine DrawK.walk 9 mixed (by kernel_rfl) ?_
    simp only [go_sem, hlt2, hkl, hg, hgk, hne, hwk]
    refine roundK.intro (k + 1) ⟨by omega, fun j hj2 => ?_⟩ (by omega) ?_
    ·by_cases e : j = k
     ·rw [e]; exact hne
     ·exact hks j (by omega)
    simp only [go_sem]
   ·obtain rfl : k = i := by omega
    simp only [go_sem, hki, hw]
    refine roundK.intro (k + 1) ⟨by omega, fun j hj2 => ?_⟩ (by omega) ?_
    ·by_cases e : j = k
     ·rw [e]; exact okN_new hlt2 hwd hky hks
     ·exact hok j (by omega)
    simp only [go_sem]
  ·have hb := names_ok (l := l) fun j hj => hok j (by omega)
   rw [hb]
   simp only [go_sem, hlt2]
def listB (l : List Int) (n lo hi : Int) : Bool := (l.all fun x => betweenB x lo hi) && ((l.length : Int) == n)
theorem con_rlistG (l : List Int) (n lo hi : Int) (h6 : l.length <= 9223372036854775806) : Con Tryz.prog 128 [vs 0 l, vi n, vi lo, vi hi] [] fun r _ => r = vb (listB l n lo hi) := by
 refine Con.intro Tryz.func128 rfl Tryz.ntmps128 Tryz.results128 (by kernel_rfl) (by simp) 0 (by simp) ?_
 unfold listB
 simp only [go_sem]
 refine LoopK.intro (fun i : Nat => ⟨28, [(0, vs 0 l), (1, vi n), (2, vi lo), (3, vi hi), (9, vi i)], []⟩) (fun i => l.length - i) (fun i => i <= l.length /\ ∀ j, j < i -> betweenB l[j]! lo hi = true) 0 ⟨by omega, fun j hj => by omega⟩ ?_ ?_
 ·simp only [go_sem]
 rintro i ⟨hi2, hj⟩
 by_cases h : i < l.length
 ·have hg := getv h
  have hw : IntKind.i64.wrap (i + 1) = i + 1 := wrap_in (by omega) (by omega)
  simp only [go_sem, h, hg]
  refine CallU.free (con_rbetween l[i]! lo hi) (by simp only [go_sem]) (by simp only [go_sem]) ?_
  rintro r bx rfl
  cases hc : betweenB l[i]! lo hi
  ·have hb := all_bad (p := fun x => betweenB x lo hi) h hc
   rw [hb, Bool.false_and]
   simp only [go_sem]
  simp only [go_sem, hw]
  refine roundK.intro (i + 1) ⟨by omega, fun j hj2 => ?_⟩ (by omega) ?_
  ·by_cases e : j = i
   ·rw [e]; exact hc
   ·exact hj j (by omega)
  simp only [go_sem]
 ·have hb := all_ok (l := l) (p := fun x => betweenB x lo hi) fun j hj2 => hj j (by omega)
  rw [hb, Bool.true_and]
  simp only [go_sem, h]
def fewB (l : List Int) (n hi : Int) : Bool := decide ((l.length : Int) <= n) && l.all fun x => betweenB x 0 hi
theorem listB_self (l : List Int) (lo hi : Int) : listB l l.length lo hi = l.all fun x => betweenB x lo hi := by
 unfold listB
 rw [beq_self_eq_true, Bool.and_true]
theorem con_rfew (l : List Int) (n hi : Int) (h6 : l.length <= 9223372036854775806) : Con Tryz.prog 129 [vs 0 l, vi n, vi hi] [] fun r _ => r = vb (fewB l n hi) := by
 refine Con.intro Tryz.func129 rfl Tryz.ntmps129 Tryz.results129 (by kernel_rfl) (by simp) 0 (by simp) ?_
 have hc := con_rlistG l l.length 0 hi h6
 rw [listB_self] at hc
 unfold fewB
 by_cases h : (l.length : Int) <= n
 ·simp only [go_sem, h]
  refine CallU.free hc (by simp only [go_sem]) (by simp only [go_sem]) ?_
  rintro r bx rfl
  simp only [go_sem]
 ·simp only [go_sem, h, decide_false, Bool.false_and]
theorem con_rzero (l : List Int) (h6 : l.length <= 9223372036854775806) : Con Tryz.prog 131 [vs 0 l] [] fun r _ => r = vb (l.all fun x => betweenB x 0 0) := by
 refine Con.intro Tryz.func131 rfl Tryz.ntmps131 Tryz.results131 (by kernel_rfl) (by simp) 0 (by simp) ?_
 have hc := con_rlistG l l.length 0 0 h6
 rw [listB_self] at hc
 simp only [go_sem]
 refine CallU.free hc (by simp only [go_sem]) (by simp only [go_sem]) ?_
 rintro r bx rfl
 simp only [go_sem]
theorem index_between (x : Int) (n : Nat) : betweenB x 0 ((n : Int) - 1) = indexB x n := by
 unfold betweenB indexB
 rw [Bool.eq_iff_iff]
 simp only [Bool.and_eq_true, decide_eq_true_eq]
 omega
theorem con_rtimed (m : MD) (r : RD) (hl : r.Len) (hp : m.places.length <= 1000000) (ha : 0 <= m.age /\ m.age <= 1000000) : Con Tryz.prog 130 [vM m, vRule r] [] fun x _ => x = vb (agesB m.places.length m.age r) := by
 refine Con.intro Tryz.func130 rfl Tryz.ntmps130 Tryz.results130 (by kernel_rfl) (by simp) 0 (by simp) ?_
 have hlt := hl.takes
 have hlm := hl.makes
 have wp : IntKind.i64.wrap ((m.places.length : Int) - 1) = (m.places.length : Int) - 1 := wrap_in (by omega) (by omega)
 have wa : IntKind.i64.wrap (m.age + 1) = m.age + 1 := wrap_in (by omega) (by omega)
 have cf := con_rfew r.makes 3 ((m.places.length : Int) - 1) (by omega)
 have e0 : agesB m.places.length m.age r = (decide (r.takes.length <= 3) && fewB r.makes 3 ((m.places.length : Int) - 1) && (r.takes.all fun t => !badTake m.places.length m.age t) && ascI r.makes) := by
  unfold agesB fewB
  have e1 : (fun x => betweenB x 0 ((m.places.length : Int) - 1)) = fun x => indexB x m.places.length := funext fun x => index_between x _
  have e2 : decide ((r.makes.length : Int) <= 3) = decide (r.makes.length <= 3) := decide_eq_decide.2 (by omega)
  have e3 : (!r.takes.any (badTake m.places.length m.age)) = r.takes.all fun t => !badTake m.places.length m.age t := by rw [List.not_any_eq_all_not]
  rw [e1, e2, e3]
  cases decide (r.takes.length <= 3) <;> cases decide (r.makes.length <= 3) <;> cases ascI r.makes <;> cases (r.makes.all fun x => indexB x m.places.length) <;> cases (r.takes.all fun t => !badTake m.places.length m.age t) <;> rfl
 rw [e0]
 by_cases h1 : r.takes.length <= 3
 case neg =>
  have h1' : (3 : Int) < r.takes.length := by omega
  rw [decide_eq_false h1, Bool.false_and, Bool.false_and, Bool.false_and]
  simp only [go_sem, List.length_map, h1']
 have h1' : ¬ (3 : Int) < r.takes.length := by omega
 rw [decide_eq_true h1, Bool.true_and]
 simp only [go_sem, cM, vss, List.length_map, h1', wp]
 refine CallU.free cf (by simp only [go_sem]) (by simp only [go_sem]) ?_
 rintro x bx rfl
 cases hf : fewB r.makes 3 ((m.places.length : Int) - 1)
 ·rw [Bool.false_and, Bool.false_and]
  simp only [go_sem]
 rw [Bool.true_and]
 simp only [go_sem]
 refine LoopK.intro (fun i : Nat => ⟨81, [(2, .pb 0 0), (3, .pb 1 0), (4, vb false), (5, vi i)], [vi m.kind, .sl 0 1 (m.states.map vStr), .sl 0 1 (m.places.map vStr), .sl 0 1 (m.letters.map vStr), vs 0 m.ranks, vi m.levels, vi m.age, .sl 0 14 (m.rules.map vRule), vi m.start.n, .sl 0 2 (m.start.kids.map vV)] :: [vStr r.name, vi r.src, vi r.dst, vs 0 r.need, vs 0 r.give, vs 0 r.move, vi r.channel, vi r.act, vi r.letter, vs 0 r.path, vs 0 r.next, .sl 0 3 (r.takes.map vTake), vs 0 r.makes, vi r.second] :: Rk 3 i⟩)
  (fun i => r.takes.length - i) (fun i => i <= r.takes.length /\ ∀ j, j < i -> (!badTake m.places.length m.age r.takes[j]!) = true) 0 ⟨by omega, fun j hj => by omega⟩ ?_ ?_
 ·simp only [go_sem]
  exact leB_self _
 rintro i ⟨hi, hb⟩
 by_cases h : i < r.takes.length
 ·have hg := getTake h
  have hw : IntKind.i64.wrap (i + 1) = i + 1 := wrap_in (by omega) (by omega)
  have hB' := Rk_len 3 i
  have n0 := fun L : List (List AV) => app_at0 (L := L) hB'
  have s0' := fun (L : List (List AV)) z => app_set0 (L := L) (z := z) hB'
  have cb := con_rbetween r.takes[i]!.1 0 ((m.places.length : Int) - 1)
  have hnext : badTake m.places.length m.age r.takes[i]! = false -> ∀ j, j < i + 1 -> (!badTake m.places.length m.age r.takes[j]!) = true := fun hk j hj => by
   by_cases hji : j = i
   ·rw [hji, hk]; rfl
   ·exact hb j (by omega)
  have hstop : badTake m.places.length m.age r.takes[i]! = true -> (r.takes.all fun t => !badTake m.places.length m.age t) = false := fun hk => all_bad (p := fun t => !badTake m.places.length m.age t) h (by rw [hk]; rfl)
  have hbt : badTake m.places.length m.age r.takes[i]! = (!indexB r.takes[i]!.1 m.places.length || decide (r.takes[i]!.2.1 < 0) || decide (r.takes[i]!.2.2 < r.takes[i]!.2.1) || decide (m.age + 1 < r.takes[i]!.2.2)) := rfl
  rw [index_between] at cb
  generalize r.takes[i]! = t at *
  simp only [go_sem, h, hg, hB', n0, s0', wp, List.length_map]
  refine CallU.free cb (by simp only [go_sem]) (by simp only [go_sem]) ?_
  rintro x bx rfl
  by_cases h2 : t.2.1 < 0
  ·have hk : badTake m.places.length m.age t = true := by rw [hbt, decide_eq_true h2]; simp
   rw [hstop hk, Bool.false_and]
   cases indexB t.1 m.places.length
   ·simp only [go_sem]
   ·simp only [go_sem, n0, h2]
  cases hi1 : indexB t.1 m.places.length
  ·have hk : badTake m.places.length m.age t = true := by rw [hbt, hi1]; rfl
   rw [hstop hk, Bool.false_and]
   simp only [go_sem]
  by_cases h3 : t.2.2 < t.2.1
  ·have hk : badTake m.places.length m.age t = true := by rw [hbt, decide_eq_true h3]; simp
   rw [hstop hk, Bool.false_and]
   simp only [go_sem, n0, h2, h3]
  by_cases h4 : m.age + 1 < t.2.2
  ·have hk : badTake m.places.length m.age t = true := by rw [hbt, decide_eq_true h4]; simp
   rw [hstop hk, Bool.false_and]
   simp only [go_sem, n0, h2, h3, wa, h4]
  have hk : badTake m.places.length m.age t = false := by rw [hbt, hi1, decide_eq_false h2, decide_eq_false h3, decide_eq_false h4]; rfl
  simp only [go_sem, n0, h2, h3, wa, h4, hw]
  refine roundK.intro (i + 1) ⟨by omega, hnext hk⟩ (by omega) ?_
  simp only [go_sem, Rk_succ]
  exact leB_RkA ⟨leC_any _ 3 rfl, trivial⟩
 have hall : (r.takes.all fun t => !badTake m.places.length m.age t) = true := all_ok (p := fun t => !badTake m.places.length m.age t) fun j hj => hb j (by omega)
 rw [hall, Bool.true_and]
 obtain rfl : i = r.takes.length := by omega
 simp only [go_sem, h]
 refine LoopK.intro (fun j : Nat => ⟨81, [(2, .pb 0 0), (3, .pb 1 0), (4, vb false), (7, vi j)], [vi m.kind, .sl 0 1 (m.states.map vStr), .sl 0 1 (m.places.map vStr), .sl 0 1 (m.letters.map vStr), vs 0 m.ranks, vi m.levels, vi m.age, .sl 0 14 (m.rules.map vRule), vi m.start.n, .sl 0 2 (m.start.kids.map vV)] :: [vStr r.name, vi r.src, vi r.dst, vs 0 r.need, vs 0 r.give, vs 0 r.move, vi r.channel, vi r.act, vi r.letter, vs 0 r.path, vs 0 r.next, .sl 0 3 (r.takes.map vTake), vs 0 r.makes, vi r.second] :: Rk 3 r.takes.length⟩)
  (fun j => r.makes.length - j) (fun j => 1 <= j /\ ∀ i, i < r.makes.length -> i < j -> i ≠ 0 -> ¬ r.makes[i]! < r.makes[i - 1]!) 1 ⟨by omega, fun i h1 h2 h3 => by omega⟩ ?_ ?_
 ·simp only [go_sem]
  all_goals exact ⟨leV_int rfl, leB_self _⟩
 rintro j ⟨hj, hs⟩
 by_cases hjl : j < r.makes.length
 ·have g1 := getv hjl
  have h2 : j - 1 < r.makes.length := by omega
  have g2 := getv h2
  have hw : IntKind.i64.wrap ((j : Int) - 1) = ((j - 1 : Nat) : Int) := by rw [wrap_in (by omega) (by omega)]; omega
  have hw2 : IntKind.i64.wrap (j + 1) = j + 1 := wrap_in (by omega) (by omega)
  simp only [go_sem, List.length_map, hjl]
  refine DrawK.walk 12 mixed (by kernel_rfl) ?_
  simp only [go_sem, hjl, g1, hw, h2, g2]
  by_cases hneg : r.makes[j]! < r.makes[j - 1]!
  ·have hbad := ascI_bad hjl (by omega) hneg
   rw [hbad]
   simp only [go_sem, hneg]
  ·simp only [go_sem, hneg, hw2]
   refine roundK.intro (j + 1) ⟨by omega, fun i h1 h3 h4 => ?_⟩ (by omega) ?_
   ·by_cases hji : i = j
    ·subst hji; exact hneg
    ·exact hs i h1 (by omega) h4
   ·simp only [go_sem]
    try exact leB_self _
 ·have e : ascI r.makes = true := ascI_good fun i h1 h2 => hs i h1 (by omega) h2
  rw [e]
  simp only [go_sem, List.length_map, hjl]
theorem two_false {a b : Nat} (h : (a == 0 && b == 0) = false) : 0 < a \/ (¬ 0 < a /\ 0 < b) := by
 rw [Bool.and_eq_false_iff, beq_eq_false_iff_ne, beq_eq_false_iff_ne] at h
 omega
theorem two_true {a b : Nat} (h : (a == 0 && b == 0) = true) : ¬ 0 < a /\ ¬ 0 < b := by
 rw [Bool.and_eq_true, beq_iff_eq, beq_iff_eq] at h
 omega
def z2 (r : RD) : Bool := r.need.length == 0 && r.give.length == 0
theorem z2_false {r : RD} (h : z2 r = false) : 0 < r.need.length \/ (¬ 0 < r.need.length /\ 0 < r.give.length) := two_false h
theorem z2_true {r : RD} (h : z2 r = true) : ¬ 0 < r.need.length /\ ¬ 0 < r.give.length := two_true h
def z3 (r : RD) : Bool := r.move.length == 0
theorem z3_false {r : RD} (h : z3 r = false) : 0 < r.move.length := by unfold z3 at h; rw [beq_eq_false_iff_ne] at h; omega
theorem z3_true {r : RD} (h : z3 r = true) : ¬ 0 < r.move.length := by unfold z3 at h; rw [beq_iff_eq] at h; omega
def z4 (r : RD) : Bool := r.channel == 0 && r.act == 0 && r.letter == 0
theorem z4_false {r : RD} (h : z4 r = false) : (r.channel != 0) = true \/ ((r.channel != 0) = false /\ (r.act != 0) = true) \/ ((r.channel != 0) = false /\ (r.act != 0) = false /\ (r.letter != 0) = true) := by
 unfold z4 at h
 unfold bne
 cases h1 : r.channel == 0 <;> cases h2 : r.act == 0 <;> cases h3 : r.letter == 0 <;> simp [h1, h2, h3] at h ⊢
theorem z4_true {r : RD} (h : z4 r = true) : (r.channel != 0) = false /\ (r.act != 0) = false /\ (r.letter != 0) = false := by
 unfold z4 at h
 rw [Bool.and_eq_true, Bool.and_eq_true] at h
 unfold bne
 rw [h.1.1, h.1.2, h.2]
 exact ⟨rfl, rfl, rfl⟩
def z5 (r : RD) : Bool := r.path.length == 0 && r.next.length == 0
theorem z5_false {r : RD} (h : z5 r = false) : 0 < r.path.length \/ (¬ 0 < r.path.length /\ 0 < r.next.length) := two_false h
theorem z5_true {r : RD} (h : z5 r = true) : ¬ 0 < r.path.length /\ ¬ 0 < r.next.length := two_true h
def z6 (r : RD) : Bool := r.takes.length == 0 && r.makes.length == 0
theorem z6_false {r : RD} (h : z6 r = false) : 0 < r.takes.length \/ (¬ 0 < r.takes.length /\ 0 < r.makes.length) := two_false h
theorem z6_true {r : RD} (h : z6 r = true) : ¬ 0 < r.takes.length /\ ¬ 0 < r.makes.length := two_true h
def q4z (r : RD) : Bool := !(r.act == 0 && (r.channel != 0 || r.letter != 0))
theorem q4z_false {r : RD} (h : q4z r = false) : (r.act == 0) = true /\ ((r.channel != 0) = true \/ ((r.channel != 0) = false /\ (r.letter != 0) = true)) := by
 unfold q4z at h
 cases h1 : r.channel != 0 <;> cases h2 : r.act == 0 <;> cases h3 : r.letter != 0 <;> simp [h1, h2, h3] at h ⊢
theorem q4z_true {r : RD} (h : q4z r = true) : (r.act == 0) = false \/ ((r.act == 0) = true /\ (r.channel != 0) = false /\ (r.letter != 0) = false) := by
 unfold q4z at h
 cases h1 : r.channel != 0 <;> cases h2 : r.act == 0 <;> cases h3 : r.letter != 0 <;> simp [h1, h2, h3] at h ⊢
def q7 (m : MD) (r : RD) : Bool := if r.src = -1 then r.second == -1 && r.need.all fun x => betweenB x 0 0 else betweenB r.second (-1) ((m.states.length : Int) - 1)
end Go.AM
