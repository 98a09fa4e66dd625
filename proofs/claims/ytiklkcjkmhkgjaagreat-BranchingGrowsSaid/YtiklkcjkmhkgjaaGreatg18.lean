/- GJ GK GL GM GN0 -/
import Derived.Test.YtiklkcjkmhkgjaaGreatg13
import Derived.Test.YtiklkcjkmhkgjaaGreatg17
namespace Go.AM
open Go Go.Proofs Go.RowKit
set_option maxRecDepth 100000
set_option maxHeartbeats 8000000
theorem limF_1 : limF 1 = [1, 6, 0, 0, 0, 0, 0, 0] := rfl
theorem limF_2 : limF 2 = [1, 2, 1, 6, 0, 0, 0, 0] := rfl
theorem limF_3 : limF 3 = [1, 2, 1, 6, 0, 0, 0, 0] := rfl
theorem limF_4 : limF 4 = [0, 0, 1, 6, 1, 2, 0, 0] := rfl
theorem limF_5 : limF 5 = [1, 6, 0, 0, 0, 0, 0, 3] := rfl
theorem limF_6 : limF 6 = [1, 6, 0, 0, 0, 0, 0, 0] := rfl
theorem between_zero (x : Int) : betweenB x 0 0 = (x == 0) := by
 unfold betweenB
 rw [Bool.eq_iff_iff]
 simp only [Bool.and_eq_true, decide_eq_true_eq, beq_iff_eq]
 omega
theorem kind_cases {k : Int} (h : betweenB k 1 6 = true) : k = 1 \/ k = 2 \/ k = 3 \/ k = 4 \/ k = 6 \/ k = 5 := by
 unfold betweenB at h
 simp only [Bool.and_eq_true, decide_eq_true_eq] at h
 omega
theorem con_rnumbersG (m : MD) (hb : betweenB m.kind 1 6 = true) : Con Tryz.prog 63 [vM m] [] fun r _ => r = vb (sizedB m) := by
 refine Con.intro Tryz.func63 rfl Tryz.ntmps63 Tryz.results63 (by kernel_rfl) (by simp) 0 (by simp) ?_
 have b1 := con_rbetween m.states.length 1 8
 have b2 := con_rbetween m.places.length (lim m.kind 0) (lim m.kind 1)
 have b3 := con_rbetween m.letters.length (lim m.kind 2) (lim m.kind 3)
 have b4 := con_rbetween m.levels (lim m.kind 4) (lim m.kind 5)
 have b5 := con_rbetween m.age 0 3
 unfold sizedB vM cM
 rcases kind_cases hb with hk | hk | hk | hk | hk | hk
 all_goals
  simp only [hk, lim, limF_1, limF_2, limF_3, limF_4, limF_5, limF_6, List.getD_cons_zero, List.getD_cons_succ] at b2 b3 b4 ⊢
  simp only [go_sem, vss, List.length_map]
  refine CallU.free b1 (by simp only [go_sem]) (by simp only [go_sem]) ?_
  rintro r bx rfl
  cases h1 : betweenB m.states.length 1 8
  ·simp only [go_sem, Bool.false_and]
  rw [Bool.true_and]
  simp only [go_sem, List.length_map]
  refine CallU.free b2 (by simp only [go_sem]) (by simp only [go_sem]) ?_
  rintro r bx rfl
  rw [Bool.and_comm (decide _) (betweenB _ _ _)]
  generalize betweenB m.places.length _ _ = p2
  cases p2
  ·simp only [go_sem, Bool.false_and]
  rw [Bool.true_and]
  by_cases h4 : (12 : Int) < m.rules.length
  ·have h5 : ¬ m.rules.length <= 12 := by omega
   simp only [go_sem, List.length_map, h4, h5, decide_false, Bool.false_and]
  have h5 : m.rules.length <= 12 := by omega
  rw [decide_eq_true h5, Bool.true_and]
  simp only [go_sem, List.length_map, h4]
  refine CallU.free b3 (by simp only [go_sem]) (by simp only [go_sem]) ?_
  rintro r bx rfl
  generalize betweenB m.letters.length _ _ = p3
  cases p3
  ·simp only [go_sem, Bool.false_and]
  rw [Bool.true_and]
  simp only [go_sem]
  refine CallU.free b4 (by simp only [go_sem]) (by simp only [go_sem]) ?_
  rintro r bx rfl
  generalize betweenB m.levels _ _ = p4
  cases p4
  ·simp only [go_sem, Bool.false_and]
  rw [Bool.true_and]
  simp only [go_sem]
 ·rw [between_zero]
 ·rw [between_zero]
 ·rw [between_zero]
 ·rw [between_zero]
 ·rw [between_zero]
 ·refine CallU.free b5 (by simp only [go_sem]) (by simp only [go_sem]) ?_
  rintro r bx rfl
  simp only [go_sem]
theorem all_bad {α : Type} [Inhabited α] {l : List α} {p : α -> Bool} {i : Nat} (h : i < l.length) (hb : p l[i]! = false) : l.all p = false := by
 rw [List.all_eq_false]
 refine ⟨l[i]!, ?_, by rw [hb]; simp⟩
 rw [getElem!_pos l i h]; exact List.getElem_mem h
theorem all_ok {α : Type} [Inhabited α] {l : List α} {p : α -> Bool} (h : ∀ i, i < l.length -> p l[i]! = true) : l.all p = true := by
 rw [List.all_eq_true]
 intro x hx
 obtain ⟨i, hi, rfl⟩ := List.getElem_of_mem hx
 have := h i hi
 rwa [getElem!_pos l i hi] at this
theorem con_rranksG (m : MD) (hl : m.ranks.length <= 1000000) : Con Tryz.prog 64 [vM m] [] fun r _ => r = vb (rankedB m) := by
 refine Con.intro Tryz.func64 rfl Tryz.ntmps64 Tryz.results64 (by kernel_rfl) (by simp) 0 (by simp) ?_
 unfold rankedB
 by_cases k3 : m.kind = 3
 case neg =>
  have b3 : (m.kind != 3) = true := bne_iff_ne.2 k3
  have hz : ((m.ranks.length : Int) == 0) = (m.ranks.length == 0) := zero_len _
  rw [if_neg k3]
  simp only [go_sem, vM, cM, vss, b3, hz, List.length_map]
 rw [if_pos k3]
 have b3 : (m.kind != 3) = false := by rw [k3]; rfl
 by_cases hq : m.ranks.length = m.letters.length
 case neg =>
  have hq' : ((m.ranks.length : Int) != (m.letters.length : Int)) = true := bne_iff_ne.2 (by omega)
  rw [decide_eq_false hq, Bool.false_and]
  simp only [go_sem, vM, cM, vss, b3, hq', List.length_map]
 have hq' : ((m.ranks.length : Int) != (m.letters.length : Int)) = false := by
  rw [hq]; simp
 rw [decide_eq_true hq, Bool.true_and]
 simp only [go_sem, vM, cM, vss, b3, hq', List.length_map]
 refine LoopK.intro (fun i : Nat => ⟨32, [(1, .pb 0 0), (2, vb false), (3, vi i)], [[vi m.kind, .sl 0 1 (m.states.map vStr), .sl 0 1 (m.places.map vStr), .sl 0 1 (m.letters.map vStr), vs 0 m.ranks, vi m.levels, vi m.age, .sl 0 14 (m.rules.map vRule), vi m.start.n, .sl 0 2 (m.start.kids.map vV)]]⟩)
  (fun i => m.ranks.length - i) (fun i => i <= m.ranks.length /\ ∀ j, j < i -> betweenB m.ranks[j]! 0 5 = true) 0 ⟨by omega, fun j hj => by omega⟩ ?_ ?_
 ·simp only [go_sem, vs]
 rintro i ⟨hi, hj⟩
 by_cases h : i < m.ranks.length
 ·have hg := getv h
  have hw : IntKind.i64.wrap (i + 1) = i + 1 := wrap_in (by omega) (by omega)
  simp only [go_sem, h, hg]
  refine CallU.free (con_rbetween m.ranks[i]! 0 5) (by simp only [go_sem]) (by simp only [go_sem]) ?_
  rintro r bx rfl
  cases hc : betweenB m.ranks[i]! 0 5
  ·have hb := all_bad (p := fun r => betweenB r 0 5) h hc
   rw [hb]
   simp only [go_sem]
  simp only [go_sem, hw]
  refine roundK.intro (i + 1) ⟨by omega, fun j hj2 => ?_⟩ (by omega) ?_
  ·by_cases e : j = i
   ·rw [e]; exact hc
   ·exact hj j (by omega)
  simp only [go_sem]
 ·have hb := all_ok (l := m.ranks) (p := fun r => betweenB r 0 5) fun j hj2 => hj j (by omega)
  rw [hb]
  simp only [go_sem, h]
theorem con_rwordG (s : ByteArray) (hs : s.size <= 9223372036854775806) : Con Tryz.prog 84 [vStr s] [] fun r _ => r = vb (wordB s) := by
 refine Con.intro Tryz.func84 rfl Tryz.ntmps84 Tryz.results84 (by kernel_rfl) (by simp) 0 (by simp) ?_
 unfold wordB
 rw [ByteArray.toList_eq]
 simp only [go_sem]
 refine LoopK.intro (fun i : Nat => ⟨33, [(0, vStr s), (3, vi i)], []⟩) (fun i => s.size - i) (fun i => i <= s.size /\ ∀ j, j < i -> partB s.data.toList[j]! = true) 0 ⟨by omega, fun j hj => by omega⟩ ?_ ?_
 ·simp only [go_sem]
 rintro i ⟨hi, hj⟩
 by_cases h : i < s.size
 ·have hg := ba_get h
  have hw : IntKind.i64.wrap (i + 1) = i + 1 := wrap_in (by omega) (by omega)
  have h5 : i < s.data.toList.length := by rw [ba_len]; exact h
  simp only [go_sem, h, hg]
  refine CallU.free (con_rletter s.data.toList[i]!) (by simp only [go_sem]) (by simp only [go_sem]) ?_
  rintro r bx rfl
  cases hc : partB s.data.toList[i]!
  ·have hb := all_bad (p := partB) h5 hc
   rw [hb, Bool.and_false]
   simp only [go_sem]
  simp only [go_sem, hw]
  refine roundK.intro (i + 1) ⟨by omega, fun j hj2 => ?_⟩ (by omega) ?_
  ·by_cases e : j = i
   ·rw [e]; exact hc
   ·exact hj j (by omega)
  simp only [go_sem]
 ·have hb := all_ok (l := s.data.toList) (p := partB) fun j hj2 => hj j (by rw [ba_len] at hj2; omega)
  rw [hb, Bool.and_true]
  by_cases h1 : 0 < s.size
  ·have e0 : s.get! 0 = s.data.toList[0]! := by
    have h5 : 0 < s.data.toList.length := by rw [ba_len]; exact h1
    rw [getElem!_pos s.data.toList 0 h5, Array.getElem_toList]
    show s.data[0]! = _
    rw [getElem!_pos s.data 0 h1]
   have hg := ba_get h1
   have g1 : (1 : Int) <= (s.size : Int) := by omega
   rw [e0, letterB_eq, decide_eq_true h1, Bool.true_and]
   by_cases h2 : s.size <= 12
   ·have g2 : (s.size : Int) <= 12 := by omega
    rw [decide_eq_true h2, Bool.true_and]
    by_cases h3 : (97 : Int) <= (s.data.toList[0]!.toNat : Int) <;> by_cases h4 : (s.data.toList[0]!.toNat : Int) <= 122 <;>
     simp only [go_sem, h, hg, g1, g2, h3, h4, decide_true, decide_false, Bool.and_true, Bool.and_false]
   ·have g2 : ¬ (s.size : Int) <= 12 := by omega
    rw [decide_eq_false h2, Bool.false_and]
    simp only [go_sem, h, g1, g2]
  ·have g1 : ¬ (1 : Int) <= (s.size : Int) := by omega
   rw [decide_eq_false h1, Bool.false_and, Bool.false_and]
   simp only [go_sem, h, g1]
theorem con_rkeywordG (s : ByteArray) : Con Tryz.prog 85 [vStr s] [] fun r _ => r = vb (keywordB s) := by
 cases hk : keywordB s
 ·exact con_rkeyword s hk
 have hq : ∃ i, i < kwL.length /\ (kwL[i]!.toList == s.toList) = true := by
  unfold keywordB at hk
  obtain ⟨x, hx, he⟩ := List.any_eq_true.1 hk
  obtain ⟨i, hi, rfl⟩ := List.getElem_of_mem hx
  refine ⟨i, hi, ?_⟩
  rw [getElem!_pos kwL i hi]
  rw [beq_iff_eq] at he ⊢
  exact he.symm
 obtain ⟨k, hk1, hk2⟩ := hq
 refine Con.intro Tryz.func85 rfl Tryz.ntmps85 Tryz.results85 (by kernel_rfl) (by simp) 0 (by simp) ?_
 simp only [go_sem]
 refine LoopK.intro (fun i : Nat => ⟨18, [(0, vStr s), (3, .sl 384 1 (kwL.map vStr)), (4, vi i)], []⟩) (fun i => 18 - i) (fun i => i <= k) 0 (by omega) ?_ ?_
 ·simp only [go_sem, kwL, List.map_cons, List.map_nil]
 rintro i hi
 have h18 : i < 18 := by rw [kwL_len] at hk1; omega
 have hl : i < kwL.length := by omega
 have hg := getStr hl
 have hw : IntKind.i64.wrap (i + 1) = i + 1 := wrap_in (by omega) (by omega)
 cases hn : kwL[i]!.toList == s.toList
 ·have : i ≠ k := by intro e; rw [e, hk2] at hn; cases hn
  simp only [go_sem, kwL_len, h18, hg, hn, hw]
  refine roundK.intro (i + 1) (by omega) (by omega) ?_
  simp only [go_sem]
 ·simp only [go_sem, kwL_len, h18, hg, hn]
theorem okN_dup {l : List ByteArray} {i k : Nat} (hi : i < l.length) (hk : k < i) (he : (l[k]!.toList == l[i]!.toList) = true) : okN l i = false := by
 rw [ba_eq, beq_iff_eq] at he
 have h3 : l[i]!.data.toList ∈ (l.take i).map fun s => s.data.toList := by
  refine List.mem_map.2 ⟨l[k]!, ?_, he⟩
  rw [getElem!_pos l k (by omega)]
  exact List.mem_of_getElem? (i := k) (by rw [List.getElem?_take, if_pos hk]; simp)
 unfold okN
 rw [List.contains_iff_mem.2 h3, Bool.not_true, Bool.and_false]
theorem okN_new {l : List ByteArray} {i : Nat} (hi : i < l.length) (hw : wordB l[i]! = true) (hk : keywordB l[i]! = false) (hn : ∀ k, k < i -> (l[k]!.toList == l[i]!.toList) = false) : okN l i = true := by
 unfold okN
 rw [hw, hk, Bool.not_false, Bool.true_and, Bool.true_and, Bool.not_eq_true', <- Bool.not_eq_true]
 intro h
 obtain ⟨x, hx, he⟩ := List.mem_map.1 (List.contains_iff_mem.1 h)
 obtain ⟨k, hk2, rfl⟩ := List.getElem_of_mem hx
 rw [List.length_take] at hk2
 have h2 := hn k (by omega)
 rw [ba_eq, beq_eq_false_iff_ne] at h2
 apply h2
 rw [<- he, List.getElem_take, getElem!_pos l k (by omega)]
theorem okN_word {l : List ByteArray} {i : Nat} (hw : wordB l[i]! = false) : okN l i = false := by unfold okN; rw [hw, Bool.false_and, Bool.false_and]
theorem okN_keyword {l : List ByteArray} {i : Nat} (hk : keywordB l[i]! = true) : okN l i = false := by unfold okN; rw [hk, Bool.not_true, Bool.and_false, Bool.false_and]
theorem con_rnamesG (m : MD) (h1 : 1 <= m.states.length) (h2 : (namesOf m).length <= 1000000) (hs : ∀ s ∈ namesOf m, s.size <= 9223372036854775806) : Con Tryz.prog 65 [vM m] [] fun r _ => r = vb (namesB (namesOf m)) := by
 refine Con.intro Tryz.func65 rfl Tryz.ntmps65 Tryz.results65 (by kernel_rfl) (by simp) 0 (by simp) ?_
 have h2' := h2
 unfold namesOf at h2'
 simp only [List.length_append, List.length_map] at h2'
 have r1 : roomFor m.states.length 16 := by simp only [roomFor]; omega
 have r2 : roomFor (m.states.length + m.places.length) 16 := by simp only [roomFor]; omega
 have r3 : roomFor (m.states.length + m.places.length + m.letters.length) 16 := by simp only [roomFor]; omega
 have e0 : namesTo m 0 = m.states ++ m.places ++ m.letters := by rw [namesTo_zero]
 unfold vM cM
 simp only [go_sem, vss]
 refine DrawK.meet ⟨65, [(1, .pb 0 0), (2, vb false), (3, .sl 640 1 ((namesTo m 0).map vStr))], [[vi m.kind, .sl 0 1 (m.states.map vStr), .sl 0 1 (m.places.map vStr), .sl 0 1 (m.letters.map vStr), vs 0 m.ranks, vi m.levels, vi m.age, .sl 0 14 (m.rules.map vRule), vi m.start.n, .sl 0 2 (m.start.kids.map vV)]]⟩ ?_ ?_
 ·refine DrawK.tree namesTree mixed (by kernel_rfl) ?_
  unfold namesTree
  rw [e0, List.map_append, List.map_append]
  repeat' (first | with_reducible apply andK_mk | simp only [go_sem, List.length_map, List.length_append, r1, r2, r3])
 ·simp only [go_sem]
  refine LoopK.intro (fun i : Nat => ⟨65, [(1, .pb 0 0), (2, vb false), (3, .sl 640 1 ((namesTo m i).map vStr)), (4, vi i)], [[vi m.kind, .sl 0 1 (m.states.map vStr), .sl 0 1 (m.places.map vStr), .sl 0 1 (m.letters.map vStr), vs 0 m.ranks, vi m.levels, vi m.age, .sl 0 14 (m.rules.map vRule), vi m.start.n, .sl 0 2 (m.start.kids.map vV)]]⟩)
   (fun i => m.rules.length - i) (fun i => i <= m.rules.length) 0 (by omega) ?_ ?_
  ·simp only [go_sem]
  rintro i hi
  have hn := namesTo_len (m := m) (i := i)
  by_cases hlt : i < m.rules.length
  ·have hg := getRule hlt
   have hw : IntKind.i64.wrap (i + 1) = i + 1 := wrap_in (by omega) (by omega)
   have e := namesTo_succ hlt
   have hr : roomFor ((namesTo m i).length + 1) 16 := by simp only [roomFor]; omega
   simp only [go_sem, hlt, hg, hw, hr]
   refine roundK.intro (i + 1) (by omega) (by omega) ?_
   simp only [go_sem, e, List.map_append, List.map_cons, List.map_nil]
  obtain rfl : i = m.rules.length := by omega
  rw [namesTo_all]
  simp only [go_sem, hlt]
  generalize namesOf m = l at *
  refine LoopK.intro (fun i : Nat => ⟨65, [(1, .pb 0 0), (2, vb false), (3, .sl 640 1 (l.map vStr)), (5, vi i)], [[vi m.kind, .sl 0 1 (m.states.map vStr), .sl 0 1 (m.places.map vStr), .sl 0 1 (m.letters.map vStr), vs 0 m.ranks, vi m.levels, vi m.age, .sl 0 14 (m.rules.map vRule), vi m.start.n, .sl 0 2 (m.start.kids.map vV)]]⟩)
   (fun i => l.length - i) (fun i => i <= l.length /\ ∀ j, j < i -> okN l j = true) 0 ⟨by omega, fun j hj => by omega⟩ ?_ ?_
  ·simp only [go_sem]
  rintro i ⟨hi, hok⟩
  by_cases hlt2 : i < l.length
  ·have hg := getStr hlt2
   have hw : IntKind.i64.wrap (i + 1) = i + 1 := wrap_in (by omega) (by omega)
   have hsz : l[i]!.size <= 9223372036854775806 := hs _ (by rw [getElem!_pos l i hlt2]; exact List.getElem_mem hlt2)
   simp only [go_sem, hlt2, hg]
   refine CallU.free (con_rwordG l[i]! hsz) (by simp only [go_sem]) (by simp only [go_sem]) ?_
   rintro r bx rfl
   cases hwd : wordB l[i]!
   ·have hb := names_bad hlt2 (okN_word hwd)
    rw [hb]
    simp only [go_sem]
   simp only [go_sem, hlt2, hg]
   refine CallU.free (con_rkeywordG l[i]!) (by simp only [go_sem]) (by simp only [go_sem]) ?_
   rintro r bx rfl
   cases hky : keywordB l[i]!
   case true =>
    have hb := names_bad hlt2 (okN_keyword hky)
    rw [hb]
    simp only [go_sem]
   simp only [go_sem]
   refine LoopK.intro (fun k : Nat => ⟨65, [(1, .pb 0 0), (2, vb false), (3, .sl 640 1 (l.map vStr)), (5, vi i), (6, vi k)], [[vi m.kind, .sl 0 1 (m.states.map vStr), .sl 0 1 (m.places.map vStr), .sl 0 1 (m.letters.map vStr), vs 0 m.ranks, vi m.levels, vi m.age, .sl 0 14 (m.rules.map vRule), vi m.start.n, .sl 0 2 (m.start.kids.map vV)]]⟩)
    (fun k => i - k) (fun k => k <= i /\ ∀ j, j < k -> (l[j]!.toList == l[i]!.toList) = false) 0 ⟨by omega, fun j hj => by omega⟩ ?_ ?_
   ·simp only [go_sem]
   rintro k ⟨hk, hks⟩
   by_cases hki : k < i
   ·have hkl : k < l.length := by omega
    have hgk := getStr hkl
    have hwk : IntKind.i64.wrap (k + 1) = k + 1 := wrap_in (by omega) (by omega)
    cases hne : l[k]!.toList == l[i]!.toList
    case true =>
     have hb := names_bad hlt2 (okN_dup hlt2 hki hne)
     rw [hb]
     simp only [go_sem, hki]
     refine DrawK.walk 9 mixed (by kernel_rfl) ?_
     simp only [go_sem, hlt2, hkl, hg, hgk, hne]
    simp only [go_sem, hki]
    refine DrawK.walk 9 mixed (by kernel_rfl) ?_
    simp only [go_sem, hlt2, hkl, hg, hgk, hne, hwk]
    refine roundK.intro (k + 1) ⟨by omega, fun j hj2 => ?_⟩ (by omega) ?_
    ·by_cases e : j = k
     ·rw [e]; exact hne
     ·exact hks j (by omega)
    simp only [go_sem]
   ·obtain rfl : k = i := by omega
    simp only [go_sem, hki, hw]
    refine roundK.intro (k + 1) ⟨by omega, fun j hj2 => ?_⟩ (by omega) ?_
    ·by_cases e : j = k
     ·rw [e]; exact okN_new hlt2 hwd hky hks
     ·exact hok j (by omega)
    simp only [go_sem]
  ·have hb := names_ok (l := l) fun j hj => hok j (by omega)
   rw [hb]
   simp only [go_sem, hlt2]
def listB (l : List Int) (n lo hi : Int) : Bool := (l.all fun x => betweenB x lo hi) && ((l.length : Int) == n)
theorem con_rlistG (l : List Int) (n lo hi : Int) (h6 : l.length <= 9223372036854775806) : Con Tryz.prog 86 [vs 0 l, vi n, vi lo, vi hi] [] fun r _ => r = vb (listB l n lo hi) := by
 refine Con.intro Tryz.func86 rfl Tryz.ntmps86 Tryz.results86 (by kernel_rfl) (by simp) 0 (by simp) ?_
 unfold listB
 simp only [go_sem]
 refine LoopK.intro (fun i : Nat => ⟨28, [(0, vs 0 l), (1, vi n), (2, vi lo), (3, vi hi), (9, vi i)], []⟩) (fun i => l.length - i) (fun i => i <= l.length /\ ∀ j, j < i -> betweenB l[j]! lo hi = true) 0 ⟨by omega, fun j hj => by omega⟩ ?_ ?_
 ·simp only [go_sem]
 rintro i ⟨hi2, hj⟩
 by_cases h : i < l.length
 ·have hg := getv h
  have hw : IntKind.i64.wrap (i + 1) = i + 1 := wrap_in (by omega) (by omega)
  simp only [go_sem, h, hg]
  refine CallU.free (con_rbetween l[i]! lo hi) (by simp only [go_sem]) (by simp only [go_sem]) ?_
  rintro r bx rfl
  cases hc : betweenB l[i]! lo hi
  ·have hb := all_bad (p := fun x => betweenB x lo hi) h hc
   rw [hb, Bool.false_and]
   simp only [go_sem]
  simp only [go_sem, hw]
  refine roundK.intro (i + 1) ⟨by omega, fun j hj2 => ?_⟩ (by omega) ?_
  ·by_cases e : j = i
   ·rw [e]; exact hc
   ·exact hj j (by omega)
  simp only [go_sem]
 ·have hb := all_ok (l := l) (p := fun x => betweenB x lo hi) fun j hj2 => hj j (by omega)
  rw [hb, Bool.true_and]
  simp only [go_sem, h]
theorem listB_self (l : List Int) (lo hi : Int) : listB l l.length lo hi = l.all fun x => betweenB x lo hi := by
 unfold listB
 rw [beq_self_eq_true, Bool.and_true]
theorem con_rzero (l : List Int) (h6 : l.length <= 9223372036854775806) : Con Tryz.prog 89 [vs 0 l] [] fun r _ => r = vb (l.all fun x => betweenB x 0 0) := by
 refine Con.intro Tryz.func89 rfl Tryz.ntmps89 Tryz.results89 (by kernel_rfl) (by simp) 0 (by simp) ?_
 have hc := con_rlistG l l.length 0 0 h6
 rw [listB_self] at hc
 simp only [go_sem]
 refine CallU.free hc (by simp only [go_sem]) (by simp only [go_sem]) ?_
 rintro r bx rfl
 simp only [go_sem]
theorem index_between (x : Int) (n : Nat) : betweenB x 0 ((n : Int) - 1) = indexB x n := by
 unfold betweenB indexB
 rw [Bool.eq_iff_iff]
 simp only [Bool.and_eq_true, decide_eq_true_eq]
 omega
theorem two_false {a b : Nat} (h : (a == 0 && b == 0) = false) : 0 < a \/ (¬ 0 < a /\ 0 < b) := by
 rw [Bool.and_eq_false_iff, beq_eq_false_iff_ne, beq_eq_false_iff_ne] at h
 omega
theorem two_true {a b : Nat} (h : (a == 0 && b == 0) = true) : ¬ 0 < a /\ ¬ 0 < b := by
 rw [Bool.and_eq_true, beq_iff_eq, beq_iff_eq] at h
 omega
def z3 (r : RD) : Bool := r.move.length == 0
theorem z3_false {r : RD} (h : z3 r = false) : 0 < r.move.length := by unfold z3 at h; rw [beq_eq_false_iff_ne] at h; omega
theorem z3_true {r : RD} (h : z3 r = true) : ¬ 0 < r.move.length := by unfold z3 at h; rw [beq_iff_eq] at h; omega
def z4 (r : RD) : Bool := r.channel == 0 && r.act == 0 && r.letter == 0
theorem z4_false {r : RD} (h : z4 r = false) : (r.channel != 0) = true \/ ((r.channel != 0) = false /\ (r.act != 0) = true) \/ ((r.channel != 0) = false /\ (r.act != 0) = false /\ (r.letter != 0) = true) := by
 unfold z4 at h
 unfold bne
 cases h1 : r.channel == 0 <;> cases h2 : r.act == 0 <;> cases h3 : r.letter == 0 <;> simp [h1, h2, h3] at h ⊢
theorem z4_true {r : RD} (h : z4 r = true) : (r.channel != 0) = false /\ (r.act != 0) = false /\ (r.letter != 0) = false := by
 unfold z4 at h
 rw [Bool.and_eq_true, Bool.and_eq_true] at h
 unfold bne
 rw [h.1.1, h.1.2, h.2]
 exact ⟨rfl, rfl, rfl⟩
def z5 (r : RD) : Bool := r.path.length == 0 && r.next.length == 0
theorem z5_false {r : RD} (h : z5 r = false) : 0 < r.path.length \/ (¬ 0 < r.path.length /\ 0 < r.next.length) := two_false h
theorem z5_true {r : RD} (h : z5 r = true) : ¬ 0 < r.path.length /\ ¬ 0 < r.next.length := two_true h
def z6 (r : RD) : Bool := r.takes.length == 0 && r.makes.length == 0
theorem z6_false {r : RD} (h : z6 r = false) : 0 < r.takes.length \/ (¬ 0 < r.takes.length /\ 0 < r.makes.length) := two_false h
theorem z6_true {r : RD} (h : z6 r = true) : ¬ 0 < r.takes.length /\ ¬ 0 < r.makes.length := two_true h
def q7 (m : MD) (r : RD) : Bool := if r.src = -1 then r.second == -1 && r.need.all fun x => betweenB x 0 0 else betweenB r.second (-1) ((m.states.length : Int) - 1)
end Go.AM
