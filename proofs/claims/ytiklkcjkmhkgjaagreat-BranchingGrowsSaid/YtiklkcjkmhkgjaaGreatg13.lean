/- GH CrA CrB -/
import Derived.Test.YtiklkcjkmhkgjaaGreatg12
import Derived.Test.YtiklkcjkmhkgjaaGreatg10
namespace Go.AM
open Go Go.Proofs Go.RowKit
set_option maxRecDepth 100000
set_option maxHeartbeats 8000000
def beginsF (m : MD) : Bool := if m.kind = 6 then m.start.n == 0 && m.start.kids.length == 0 else validV (typeM m) m.start
def beginsTree : Tr := .front 2 (.alt (.one 0 (.alt (.one 1 (.one 3 (.one 4 (.one 5 .done)))) (.one 3 (.one 1 (.one 4 (.one 5 .done)))))) (.one 3 (.one 0 (.one 1 (.one 4 (.one 5 .done))))))
theorem TD.Ok.leaf {k s : Int} {r : List Int} (h : r.length <= 1000000) : (TD.mk k s r []).Ok := .mk _ _ _ _ h (by simp) (fun x hx => by cases hx)
theorem TD.Ok.parts1 {k s : Int} {l : List TD} (hl : l.length <= 1000000) (h : ∀ x ∈ l, x.Ok) : (TD.mk k s [] l).Ok := .mk _ _ _ _ (by simp) hl h
theorem label_ok (n : Int) : (labelT n).Ok := .leaf (by simp)
theorem list_ok {k : Int} {t : TD} (h : t.Ok) : (listT k t).Ok := .parts1 (by simp) (fun x hx => by rw [List.mem_singleton] at hx; subst hx; exact h)
theorem prod_ok {l : List TD} (hl : l.length <= 1000000) (h : ∀ x ∈ l, x.Ok) : (prodT l).Ok := .parts1 hl h
theorem two_ok {a b : TD} (ha : a.Ok) (hb : b.Ok) : (prodT [a, b]).Ok := prod_ok (by simp) fun x hx => by
 simp only [List.mem_cons, List.not_mem_nil, or_false] at hx
 rcases hx with rfl | rfl <;> assumption
theorem nodes_ok (a : Int) : ∀ n, (nodesT a n).Ok
 | 0 => list_ok (label_ok a)
 | 1 => list_ok (label_ok a)
 | n + 2 => list_ok (two_ok (label_ok a) (nodes_ok a (n + 1)))
theorem type_ok {m : MD} (h : SizeM m) (hp : m.places.length <= 999999) : (typeM m).Ok := by
 unfold typeM partsM
 refine prod_ok ?_ fun x hx => ?_
 ·rw [List.length_cons]
  split
  ·simp
  ·split
   ·simp
   ·rw [List.length_replicate]; omega
 ·rcases List.mem_cons.1 hx with rfl | hx
  ·exact label_ok _
  ·split at hx
   ·rw [List.mem_singleton] at hx; subst hx; exact nodes_ok _ _
   ·split at hx
    ·rw [List.mem_singleton] at hx; subst hx; exact list_ok (two_ok (label_ok _) (label_ok _))
    ·rw [List.eq_of_mem_replicate hx]
     unfold placeT
     split
     ·exact list_ok (label_ok _)
     ·split
      ·exact .leaf h.ranks
      ·exact .leaf (by simp)
theorem con_typedG (m : MD) (h : SizeM m) : Con Tryz.prog 141 [vM m] [] fun r _ => r = vT (typeM m) := by
 by_cases h4 : m.kind = 4
 ·refine ((con_typed4 m h h4).freezeR fun _ => true).weak fun r b ⟨r1, h3, h6⟩ => ?_
  subst h3; subst h6
  refine ⟨_, rfl, ?_⟩
  have e : typeM m = .mk 3 0 [] [labelT m.states.length, nodesT m.letters.length m.levels.toNat] := by unfold typeM partsM prodT; rw [if_pos h4]
  rw [e]
  exact vT_parts 3 0 [labelT m.states.length, nodesT m.letters.length m.levels.toNat]
 by_cases h5 : m.kind = 5
 ·refine ((con_typed5 m h h5).freezeR fun _ => true).weak fun r b ⟨r1, h3, h6⟩ => ?_
  subst h3; subst h6
  refine ⟨_, rfl, ?_⟩
  have e : typeM m = .mk 3 0 [] [labelT m.states.length, listT 5 (prodT [labelT m.places.length, labelT (m.age + 2)])] := by unfold typeM partsM prodT; rw [if_neg h4, if_pos h5]
  rw [e]
  exact vT_parts 3 0 [labelT m.states.length, listT 5 (prodT [labelT m.places.length, labelT (m.age + 2)])]
 exact con_typedA m h h4 h5
theorem con_beginsG (m : MD) (h : SizeM m) (hp : m.places.length <= 999999) (hs : m.start.Ok) : Con Tryz.prog 112 [vM m] [] fun r _ => r = vb (beginsF m) := by
 refine Con.intro Tryz.func112 rfl Tryz.ntmps112 Tryz.results112 (by kernel_rfl) (by simp) 1 (by simp) ?_
 unfold beginsF
 by_cases h6 : m.kind = 6
 ·have b6 : (m.kind == 6) = true := beq_iff_eq.2 h6
  have hz : ((m.start.kids.length : Int) == 0) = (m.start.kids.length == 0) := zero_len _
  rw [if_pos h6]
  cases h0 : m.start.n == 0
  ·simp only [go_sem, cM, vss, b6, h0, Bool.false_and]
  ·simp only [go_sem, cM, vss, b6, h0, hz, List.length_map, Bool.true_and]
 have b6 : (m.kind == 6) = false := beq_eq_false_iff_ne.2 h6
 rw [if_neg h6]
 have ct := con_typedG m h
 have cv := con_oValid (typeM m) m.start (type_ok h hp) hs
 have e1 := vT_eq (typeM m)
 rw [e1] at ct cv
 rw [vV_eq] at cv
 simp only [go_sem, cM, vss, b6]
 refine DrawK.meet ⟨22, [(1, .pb 0 0), (2, vb (validV (typeM m) m.start))], [cM m]⟩ ?_ ?_
 ·refine DrawK.tree beginsTree mixed (by kernel_rfl) ?_
  unfold beginsTree
  repeat' (first | with_reducible apply andK_mk | (refine CallU.free ct (by simp only [go_sem]) ?_ ?_; (· (simp only [go_sem, vM, cM, vss]; done)); rintro x bx rfl) | (refine CallU.free cv (by simp only [go_sem]) ?_ ?_; (· (simp only [go_sem]; done)); rintro x bx rfl) | simp only [go_sem, cM, vss])
 ·simp only [go_sem]
structure LenM (m : MD) : Prop where
 names : (namesOf m).length <= 1000000
 sizes : ∀ s ∈ namesOf m, s.size <= 9223372036854775806
 ranks : m.ranks.length <= 1000000
 rules : ∀ r ∈ m.rules, LenR r
 start : m.start.Ok
def checkF (m : MD) : Int :=
 if betweenB m.kind 1 6 = false then 15 else if sizedB m = false then 1 else if rankedB m = false then 14 else if namesB (namesOf m) = false then 13
 else if (m.rules.any fun r => !rightR m r) = true then 16 else if beginsF m = false then 17 else 0
theorem names_lens {m : MD} (h : LenM m) : m.states.length <= 1000000 /\ m.places.length <= 1000000 /\ m.letters.length <= 1000000 /\ m.rules.length <= 1000000 := by
 have := h.names
 unfold namesOf at this
 simp only [List.length_append, List.length_map] at this
 omega
theorem sized_lim {m : MD} (h : sizedB m = true) : 1 <= m.states.length /\ (m.kind = 4 -> 0 <= m.levels /\ m.levels <= 100) /\ (m.kind = 5 -> 0 <= m.age /\ m.age <= 100) /\ (m.kind = 3 -> 1 <= m.letters.length) := by
 unfold sizedB betweenB at h
 simp only [Bool.and_eq_true, decide_eq_true_eq] at h
 obtain ⟨⟨⟨⟨⟨h1, h2⟩, h3⟩, h4⟩, h5⟩, h6⟩ := h
 refine ⟨by omega, fun hk => ?_, fun hk => ?_, fun hk => ?_⟩
 ·rw [hk] at h5
  have : lim 4 4 = 1 /\ lim 4 5 = 2 := by decide
  omega
 ·rw [hk] at h6
  have : lim 5 6 = 0 /\ lim 5 7 = 3 := by decide
  omega
 ·rw [hk] at h4
  have : lim 3 2 = 1 := by decide
  omega
theorem sized_size {m : MD} (h : LenM m) (hs : sizedB m = true) (hr : rankedB m = true) : SizeM m /\ m.places.length <= 999999 := by
 have hl := names_lens h
 have hz := sized_lim hs
 refine ⟨⟨hl.1, hl.2.1, hl.2.2.1, h.ranks, hz.2.1, hz.2.2.1, fun hk => ?_⟩, ?_⟩
 ·unfold rankedB at hr
  rw [if_pos hk, Bool.and_eq_true, decide_eq_true_eq] at hr
  have := hz.2.2.2 hk
  omega
 ·unfold sizedB betweenB at hs
  simp only [Bool.and_eq_true, decide_eq_true_eq] at hs
  have h3 := hs.1.1.1.2.2
  have hlim : ∀ k : Int, lim k 1 <= 6 := fun k => by
   unfold lim limF
   split
   ·decide
   ·split
    ·decide
    ·split <;> decide
  have := hlim m.kind
  omega
theorem con_check1G (m : MD) (r : RD) (h : RightM m) (hr : LenR r) : Con Tryz.prog 110 [vRule r, .fp (cM m) 0] [] fun x _ => x = .sc (.bool (!rightR m r)) := by
 refine Con.intro Tryz.func110 rfl Tryz.ntmps110 Tryz.results110 (by kernel_rfl) (by simp) 1 (by simp) ?_
 simp only [go_sem]
 refine CallU.free (con_rightG m r h hr) (by simp only [go_sem]) (by simp only [go_sem]) ?_
 rintro x bx rfl
 simp only [go_sem]
theorem con_CheckG (m : MD) (h : LenM m) : Con Tryz.prog 78 [vM m] [] fun r _ => r = vi (checkF m) := by
 refine Con.intro Tryz.func78 rfl Tryz.ntmps78 Tryz.results78 (by kernel_rfl) (by simp) 1 (by simp) ?_
 have hl := names_lens h
 unfold checkF
 simp only [go_sem]
 refine CallU.free (con_between m.kind 1 6) (by simp only [go_sem]) (by simp only [go_sem]) ?_
 rintro r bx rfl
 cases h1 : betweenB m.kind 1 6
 ·simp only [go_sem, if_true]
 simp only [go_sem, if_false]
 refine CallU.free (con_sized m) (by simp only [go_sem]) (by simp only [go_sem]) ?_
 rintro r bx rfl
 cases h2 : sizedB m
 ·simp only [go_sem, if_true]
 simp only [go_sem, if_false]
 refine CallU.free (con_ranked m (by have := h.ranks; omega)) (by simp only [go_sem]) (by simp only [go_sem]) ?_
 rintro r bx rfl
 cases h3 : rankedB m
 ·simp only [go_sem, if_true]
 have hz := sized_lim h2
 have hsz := sized_size h h2 h3
 have hRM : RightM m := ⟨hl.1, hl.2.1, hl.2.2.1, fun hk => by have := hz.2.2.1 hk; omega⟩
 simp only [go_sem, if_false]
 refine CallU.free (con_named m hz.1 h.names h.sizes) (by simp only [go_sem]) (by simp only [go_sem]) ?_
 rintro r bx rfl
 cases h4 : namesB (namesOf m)
 ·simp only [go_sem, if_true]
 simp only [go_sem, if_false]
 refine CallU.look (con_containsRule m.rules 110 [.fp (cM m) 0] (fun r => !rightR m r) (by simp only [go_sem]) (fun r hr => con_check1G m r hRM (h.rules r hr)) (by omega)) (by simp only [go_sem]) (by simp only [go_sem]) ?_
 rintro r bx rfl
 cases h5 : m.rules.any fun r => !rightR m r
 case true => simp only [go_sem, if_true]
 simp only [go_sem, if_false]
 refine CallU.free (con_beginsG m hsz.1 hsz.2 h.start) (by simp only [go_sem]) (by simp only [go_sem]) ?_
 rintro r bx rfl
 cases h6 : beginsF m
 ·simp only [go_sem, if_true]
 ·simp only [go_sem, Bool.true_eq_false, if_false]
theorem con_rbetween (x lo hi : Int) : Con Tryz.prog 62 [vi x, vi lo, vi hi] [] fun r _ => r = vb (betweenB x lo hi) := by
 refine Con.intro Tryz.func62 rfl Tryz.ntmps62 Tryz.results62 (by kernel_rfl) (by simp) 0 (by simp) ?_
 unfold betweenB
 by_cases h1 : lo <= x
 ·by_cases h2 : x <= hi
  ·simp only [go_sem, h1, h2, decide_true, Bool.and_true]
  ·simp only [go_sem, h1, h2, decide_true, decide_false, Bool.and_false]
 ·simp only [go_sem, h1, decide_false, Bool.false_and]
theorem between_true {x lo hi : Int} (h1 : lo <= x) (h2 : x <= hi) : betweenB x lo hi = true := by
 unfold betweenB; rw [decide_eq_true h1, decide_eq_true h2]; rfl
theorem con_rletter (c : UInt8) : Con Tryz.prog 117 [u8v c] [] fun r _ => r = vb (partB c) := by
 refine Con.intro Tryz.func117 rfl Tryz.ntmps117 Tryz.results117 (by kernel_rfl) (by simp) 0 (by simp) ?_
 unfold partB
 rw [u8_eq (k := 95) (c := c) (n := 95) rfl, letterB_eq, digitB_eq]
 by_cases h1 : (97 : Int) <= (c.toNat : Int) <;> by_cases h2 : (c.toNat : Int) <= 122 <;> by_cases h3 : (48 : Int) <= (c.toNat : Int) <;> by_cases h4 : (c.toNat : Int) <= 57 <;>
  (simp only [go_sem, h1, h2, h3, h4, decide_true, decide_false, Bool.and_true, Bool.and_false, Bool.true_or, Bool.or_true, Bool.false_or, Bool.or_false]; all_goals simp)
theorem ba_eq {a b : ByteArray} : (a.toList == b.toList) = (a.data.toList == b.data.toList) := by rw [ByteArray.toList_eq, ByteArray.toList_eq]
theorem keyword_no {s : ByteArray} (h : keywordB s = false) {i : Nat} (hi : i < kwL.length) : (kwL[i]!.toList == s.toList) = false := by
 unfold keywordB at h
 rw [List.any_eq_false] at h
 have := h kwL[i]! (mem_bangI hi)
 rw [Bool.not_eq_true] at this
 rw [beq_eq_false_iff_ne] at this ⊢
 exact fun e => this e.symm
theorem kwL_len : kwL.length = 18 := rfl
theorem con_rkeyword (s : ByteArray) (hk : keywordB s = false) : Con Tryz.prog 85 [vStr s] [] fun r _ => r = vb false := by
 refine Con.intro Tryz.func85 rfl Tryz.ntmps85 Tryz.results85 (by kernel_rfl) (by simp) 0 (by simp) ?_
 simp only [go_sem]
 refine LoopK.intro (fun i : Nat => ⟨18, [(0, vStr s), (3, .sl 384 1 (kwL.map vStr)), (4, vi i)], []⟩) (fun i => 18 - i) (fun i => i <= 18) 0 (by omega) ?_ ?_
 ·simp only [go_sem, kwL, List.map_cons, List.map_nil]
 rintro i hi
 by_cases h : i < 18
 ·have hl : i < kwL.length := by rw [kwL_len]; exact h
  have hg := getStr hl
  have hw : IntKind.i64.wrap (i + 1) = i + 1 := wrap_in (by omega) (by omega)
  have hn := keyword_no hk hl
  simp only [go_sem, kwL_len, h, hg, hn, hw]
  refine roundK.intro (i + 1) (by omega) (by omega) ?_
  simp only [go_sem]
 ·simp only [go_sem, kwL_len, h]
def namesTree : Tr := .front 0 (.front 3 (.front 6 (.alt (.one 1 (.alt (.one 2 (.alt (.one 4 (.alt (.one 5 (.one 7 (.one 8 (.one 9 .done)))) (.one 7 (.one 5 (.one 8 (.one 9 .done)))))) (.one 7 (.one 4 (.one 5 (.one 8 (.one 9 .done))))))) (.alt (.one 4 (.alt (.one 2 (.alt (.one 5 (.one 7 (.one 8 (.one 9 .done)))) (.one 7 (.one 5 (.one 8 (.one 9 .done)))))) (.one 7 (.one 2 (.one 5 (.one 8 (.one 9 .done))))))) (.one 7 (.alt (.one 2 (.one 4 (.one 5 (.one 8 (.one 9 .done))))) (.one 4 (.one 2 (.one 5 (.one 8 (.one 9 .done)))))))))) (.alt (.one 4 (.alt (.one 1 (.alt (.one 2 (.alt (.one 5 (.one 7 (.one 8 (.one 9 .done)))) (.one 7 (.one 5 (.one 8 (.one 9 .done)))))) (.one 7 (.one 2 (.one 5 (.one 8 (.one 9 .done))))))) (.one 7 (.one 1 (.one 2 (.one 5 (.one 8 (.one 9 .done)))))))) (.one 7 (.alt (.one 1 (.alt (.one 2 (.one 4 (.one 5 (.one 8 (.one 9 .done))))) (.one 4 (.one 2 (.one 5 (.one 8 (.one 9 .done))))))) (.one 4 (.one 1 (.one 2 (.one 5 (.one 8 (.one 9 .done))))))))))))
end Go.AM
