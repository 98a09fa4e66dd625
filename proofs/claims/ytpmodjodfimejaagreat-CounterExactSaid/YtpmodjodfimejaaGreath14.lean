/- GL GM GN0 GN1 -/
import Derived.Test.YtpmodjodfimejaaGreath13
namespace Go.AM
open Go Go.Proofs Go.RowKit
set_option maxRecDepth 100000
set_option maxHeartbeats 8000000
theorem okN_dup {l : List ByteArray} {i k : Nat} (hi : i < l.length) (hk : k < i) (he : (l[k]!.toList == l[i]!.toList) = true) : okN l i = false := by
 rw [ba_eq, beq_iff_eq] at he
 have h3 : l[i]!.data.toList ∈ (l.take i).map fun s => s.data.toList := by
  refine List.mem_map.2 ⟨l[k]!, ?_, he⟩
  rw [getElem!_pos l k (by omega)]
  exact List.mem_of_getElem? (i := k) (by rw [List.getElem?_take, if_pos hk]; simp)
 unfold okN
 rw [List.contains_iff_mem.2 h3, Bool.not_true, Bool.and_false]
theorem okN_new {l : List ByteArray} {i : Nat} (hi : i < l.length) (hw : wordB l[i]! = true) (hk : keywordB l[i]! = false) (hn : ∀ k, k < i -> (l[k]!.toList == l[i]!.toList) = false) : okN l i = true := by
 unfold okN
 rw [hw, hk, Bool.not_false, Bool.true_and, Bool.true_and, Bool.not_eq_true', <- Bool.not_eq_true]
 intro h
 obtain ⟨x, hx, he⟩ := List.mem_map.1 (List.contains_iff_mem.1 h)
 obtain ⟨k, hk2, rfl⟩ := List.getElem_of_mem hx
 rw [List.length_take] at hk2
 have h2 := hn k (by omega)
 rw [ba_eq, beq_eq_false_iff_ne] at h2
 apply h2
 rw [<- he, List.getElem_take, getElem!_pos l k (by omega)]
theorem okN_word {l : List ByteArray} {i : Nat} (hw : wordB l[i]! = false) : okN l i = false := by unfold okN; rw [hw, Bool.false_and, Bool.false_and]
theorem okN_keyword {l : List ByteArray} {i : Nat} (hk : keywordB l[i]! = true) : okN l i = false := by unfold okN; rw [hk, Bool.not_true, Bool.and_false, Bool.false_and]
theorem con_rnamesG (m : MD) (h1 : 1 <= m.states.length) (h2 : (namesOf m).length <= 1000000) (hs : ∀ s ∈ namesOf m, s.size <= 9223372036854775806) : Con Tryz.prog 75 [vM m] [] fun r _ => r = vb (namesB (namesOf m)) := by
 refine Con.intro Tryz.func75 rfl Tryz.ntmps75 Tryz.results75 (by kernel_rfl) (by simp) 0 (by simp) ?_
 have h2' := h2
 unfold namesOf at h2'
 simp only [List.length_append, List.length_map] at h2'
 have r1 : roomFor m.states.length 16 := by simp only [roomFor]; omega
 have r2 : roomFor (m.states.length + m.places.length) 16 := by simp only [roomFor]; omega
 have r3 : roomFor (m.states.length + m.places.length + m.letters.length) 16 := by simp only [roomFor]; omega
 have e0 : namesTo m 0 = m.states ++ m.places ++ m.letters := by rw [namesTo_zero]
 unfold vM cM
 simp only [go_sem, vss]
 refine DrawK.meet ⟨65, [(1, .pb 0 0), (2, vb false), (3, .sl 640 1 ((namesTo m 0).map vStr))], [[vi m.kind, .sl 0 1 (m.states.map vStr), .sl 0 1 (m.places.map vStr), .sl 0 1 (m.letters.map vStr), vs 0 m.ranks, vi m.levels, vi m.age, .sl 0 14 (m.rules.map vRule), vi m.start.n, .sl 0 2 (m.start.kids.map vV)]]⟩ ?_ ?_
 ·refine DrawK.tree namesTree mixed (by kernel_rfl) ?_
  unfold namesTree
  rw [e0, List.map_append, List.map_append]
  repeat' (first | with_reducible apply andK_mk | simp only [go_sem, List.length_map, List.length_append, r1, r2, r3])
 ·simp only [go_sem]
  refine LoopK.intro (fun i : Nat => ⟨65, [(1, .pb 0 0), (2, vb false), (3, .sl 640 1 ((namesTo m i).map vStr)), (4, vi i)], [[vi m.kind, .sl 0 1 (m.states.map vStr), .sl 0 1 (m.places.map vStr), .sl 0 1 (m.letters.map vStr), vs 0 m.ranks, vi m.levels, vi m.age, .sl 0 14 (m.rules.map vRule), vi m.start.n, .sl 0 2 (m.start.kids.map vV)]]⟩)
   (fun i => m.rules.length - i) (fun i => i <= m.rules.length) 0 (by omega) ?_ ?_
  ·simp only [go_sem]
  rintro i hi
  have hn := namesTo_len (m := m) (i := i)
  by_cases hlt : i < m.rules.length
  ·have hg := getRule hlt
   have hw : IntKind.i64.wrap (i + 1) = i + 1 := wrap_in (by omega) (by omega)
   have e := namesTo_succ hlt
   have hr : roomFor ((namesTo m i).length + 1) 16 := by simp only [roomFor]; omega
   simp only [go_sem, hlt, hg, hw, hr]
   refine roundK.intro (i + 1) (by omega) (by omega) ?_
   simp only [go_sem, e, List.map_append, List.map_cons, List.map_nil]
  obtain rfl : i = m.rules.length := by omega
  rw [namesTo_all]
  simp only [go_sem, hlt]
  generalize namesOf m = l at *
  refine LoopK.intro (fun i : Nat => ⟨65, [(1, .pb 0 0), (2, vb false), (3, .sl 640 1 (l.map vStr)), (5, vi i)], [[vi m.kind, .sl 0 1 (m.states.map vStr), .sl 0 1 (m.places.map vStr), .sl 0 1 (m.letters.map vStr), vs 0 m.ranks, vi m.levels, vi m.age, .sl 0 14 (m.rules.map vRule), vi m.start.n, .sl 0 2 (m.start.kids.map vV)]]⟩)
   (fun i => l.length - i) (fun i => i <= l.length /\ ∀ j, j < i -> okN l j = true) 0 ⟨by omega, fun j hj => by omega⟩ ?_ ?_
  ·simp only [go_sem]
  rintro i ⟨hi, hok⟩
  by_cases hlt2 : i < l.length
  ·have hg := getStr hlt2
   have hw : IntKind.i64.wrap (i + 1) = i + 1 := wrap_in (by omega) (by omega)
   have hsz : l[i]!.size <= 9223372036854775806 := hs _ (by rw [getElem!_pos l i hlt2]; exact List.getElem_mem hlt2)
   simp only [go_sem, hlt2, hg]
   refine CallU.free (con_rwordG l[i]! hsz) (by simp only [go_sem]) (by simp only [go_sem]) ?_
   rintro r bx rfl
   cases hwd : wordB l[i]!
   ·have hb := names_bad hlt2 (okN_word hwd)
    rw [hb]
    simp only [go_sem]
   simp only [go_sem, hlt2, hg]
   refine CallU.free (con_rkeywordG l[i]!) (by simp only [go_sem]) (by simp only [go_sem]) ?_
   rintro r bx rfl
   cases hky : keywordB l[i]!
   case true =>
    have hb := names_bad hlt2 (okN_keyword hky)
    rw [hb]
    simp only [go_sem]
   simp only [go_sem]
   refine LoopK.intro (fun k : Nat => ⟨65, [(1, .pb 0 0), (2, vb false), (3, .sl 640 1 (l.map vStr)), (5, vi i), (6, vi k)], [[vi m.kind, .sl 0 1 (m.states.map vStr), .sl 0 1 (m.places.map vStr), .sl 0 1 (m.letters.map vStr), vs 0 m.ranks, vi m.levels, vi m.age, .sl 0 14 (m.rules.map vRule), vi m.start.n, .sl 0 2 (m.start.kids.map vV)]]⟩)
    (fun k => i - k) (fun k => k <= i /\ ∀ j, j < k -> (l[j]!.toList == l[i]!.toList) = false) 0 ⟨by omega, fun j hj => by omega⟩ ?_ ?_
   ·simp only [go_sem]
   rintro k ⟨hk, hks⟩
   by_cases hki : k < i
   ·have hkl : k < l.length := by omega
    have hgk := getStr hkl
    have hwk : IntKind.i64.wrap (k + 1) = k + 1 := wrap_in (by omega) (by omega)
    cases hne : l[k]!.toList == l[i]!.toList
    case true =>
     have hb := names_bad hlt2 (okN_dup hlt2 hki hne)
     rw [hb]
     simp only [go_sem, hki]
     refine DrawK.walk 9 mixed (by kernel_rfl) ?_
     simp only [go_sem, hlt2, hkl, hg, hgk, hne]
    simp only [go_sem, hki]
    refine DrawK.walk 9 mixed (by kernel_rfl) ?_
    simp only [go_sem, hlt2, hkl, hg, hgk, hne, hwk]
    refine roundK.intro (k + 1) ⟨by omega, fun j hj2 => ?_⟩ (by omega) ?_
    ·by_cases e : j = k
     ·rw [e]; exact hne
     ·exact hks j (by omega)
    simp only [go_sem]
   ·obtain rfl : k = i := by omega
    simp only [go_sem, hki, hw]
    refine roundK.intro (k + 1) ⟨by omega, fun j hj2 => ?_⟩ (by omega) ?_
    ·by_cases e : j = k
     ·rw [e]; exact okN_new hlt2 hwd hky hks
     ·exact hok j (by omega)
    simp only [go_sem]
  ·have hb := names_ok (l := l) fun j hj => hok j (by omega)
   rw [hb]
   simp only [go_sem, hlt2]
def listB (l : List Int) (n lo hi : Int) : Bool := (l.all fun x => betweenB x lo hi) && ((l.length : Int) == n)
theorem con_rlistG (l : List Int) (n lo hi : Int) (h6 : l.length <= 9223372036854775806) : Con Tryz.prog 128 [vs 0 l, vi n, vi lo, vi hi] [] fun r _ => r = vb (listB l n lo hi) := by
 refine Con.intro Tryz.func128 rfl Tryz.ntmps128 Tryz.results128 (by kernel_rfl) (by simp) 0 (by simp) ?_
 unfold listB
 simp only [go_sem]
 refine LoopK.intro (fun i : Nat => ⟨28, [(0, vs 0 l), (1, vi n), (2, vi lo), (3, vi hi), (9, vi i)], []⟩) (fun i => l.length - i) (fun i => i <= l.length /\ ∀ j, j < i -> betweenB l[j]! lo hi = true) 0 ⟨by omega, fun j hj => by omega⟩ ?_ ?_
 ·simp only [go_sem]
 rintro i ⟨hi2, hj⟩
 by_cases h : i < l.length
 ·have hg := getv h
  have hw : IntKind.i64.wrap (i + 1) = i + 1 := wrap_in (by omega) (by omega)
  simp only [go_sem, h, hg]
  refine CallU.free (con_rbetween l[i]! lo hi) (by simp only [go_sem]) (by simp only [go_sem]) ?_
  rintro r bx rfl
  cases hc : betweenB l[i]! lo hi
  ·have hb := all_bad (p := fun x => betweenB x lo hi) h hc
   rw [hb, Bool.false_and]
   simp only [go_sem]
  simp only [go_sem, hw]
  refine roundK.intro (i + 1) ⟨by omega, fun j hj2 => ?_⟩ (by omega) ?_
  ·by_cases e : j = i
   ·rw [e]; exact hc
   ·exact hj j (by omega)
  simp only [go_sem]
 ·have hb := all_ok (l := l) (p := fun x => betweenB x lo hi) fun j hj2 => hj j (by omega)
  rw [hb, Bool.true_and]
  simp only [go_sem, h]
def fewB (l : List Int) (n hi : Int) : Bool := decide ((l.length : Int) <= n) && l.all fun x => betweenB x 0 hi
theorem listB_self (l : List Int) (lo hi : Int) : listB l l.length lo hi = l.all fun x => betweenB x lo hi := by
 unfold listB
 rw [beq_self_eq_true, Bool.and_true]
theorem con_rfew (l : List Int) (n hi : Int) (h6 : l.length <= 9223372036854775806) : Con Tryz.prog 129 [vs 0 l, vi n, vi hi] [] fun r _ => r = vb (fewB l n hi) := by
 refine Con.intro Tryz.func129 rfl Tryz.ntmps129 Tryz.results129 (by kernel_rfl) (by simp) 0 (by simp) ?_
 have hc := con_rlistG l l.length 0 hi h6
 rw [listB_self] at hc
 unfold fewB
 by_cases h : (l.length : Int) <= n
 ·simp only [go_sem, h]
  refine CallU.free hc (by simp only [go_sem]) (by simp only [go_sem]) ?_
  rintro r bx rfl
  simp only [go_sem]
 ·simp only [go_sem, h, decide_false, Bool.false_and]
theorem con_rzero (l : List Int) (h6 : l.length <= 9223372036854775806) : Con Tryz.prog 131 [vs 0 l] [] fun r _ => r = vb (l.all fun x => betweenB x 0 0) := by
 refine Con.intro Tryz.func131 rfl Tryz.ntmps131 Tryz.results131 (by kernel_rfl) (by simp) 0 (by simp) ?_
 have hc := con_rlistG l l.length 0 0 h6
 rw [listB_self] at hc
 simp only [go_sem]
 refine CallU.free hc (by simp only [go_sem]) (by simp only [go_sem]) ?_
 rintro r bx rfl
 simp only [go_sem]
theorem index_between (x : Int) (n : Nat) : betweenB x 0 ((n : Int) - 1) = indexB x n := by
 unfold betweenB indexB
 rw [Bool.eq_iff_iff]
 simp only [Bool.and_eq_true, decide_eq_true_eq]
 omega
theorem con_rtimed (m : MD) (r : RD) (hl : r.Len) (hp : m.places.length <= 1000000) (ha : 0 <= m.age /\ m.age <= 1000000) : Con Tryz.prog 130 [vM m, vRule r] [] fun x _ => x = vb (agesB m.places.length m.age r) := by
 refine Con.intro Tryz.func130 rfl Tryz.ntmps130 Tryz.results130 (by kernel_rfl) (by simp) 0 (by simp) ?_
 have hlt := hl.takes
 have hlm := hl.makes
 have wp : IntKind.i64.wrap ((m.places.length : Int) - 1) = (m.places.length : Int) - 1 := wrap_in (by omega) (by omega)
 have wa : IntKind.i64.wrap (m.age + 1) = m.age + 1 := wrap_in (by omega) (by omega)
 have cf := con_rfew r.makes 3 ((m.places.length : Int) - 1) (by omega)
 have e0 : agesB m.places.length m.age r = (decide (r.takes.length <= 3) && fewB r.makes 3 ((m.places.length : Int) - 1) && (r.takes.all fun t => !badTake m.places.length m.age t) && ascI r.makes) := by
  unfold agesB fewB
  have e1 : (fun x => betweenB x 0 ((m.places.length : Int) - 1)) = fun x => indexB x m.places.length := funext fun x => index_between x _
  have e2 : decide ((r.makes.length : Int) <= 3) = decide (r.makes.length <= 3) := decide_eq_decide.2 (by omega)
  have e3 : (!r.takes.any (badTake m.places.length m.age)) = r.takes.all fun t => !badTake m.places.length m.age t := by rw [List.not_any_eq_all_not]
  rw [e1, e2, e3]
  cases decide (r.takes.length <= 3) <;> cases decide (r.makes.length <= 3) <;> cases ascI r.makes <;> cases (r.makes.all fun x => indexB x m.places.length) <;> cases (r.takes.all fun t => !badTake m.places.length m.age t) <;> rfl
 rw [e0]
 by_cases h1 : r.takes.length <= 3
 case neg =>
  have h1' : (3 : Int) < r.takes.length := by omega
  rw [decide_eq_false h1, Bool.false_and, Bool.false_and, Bool.false_and]
  simp only [go_sem, List.length_map, h1']
 have h1' : ¬ (3 : Int) < r.takes.length := by omega
 rw [decide_eq_true h1, Bool.true_and]
 simp only [go_sem, cM, vss, List.length_map, h1', wp]
 refine CallU.free cf (by simp only [go_sem]) (by simp only [go_sem]) ?_
 rintro x bx rfl
 cases hf : fewB r.makes 3 ((m.places.length : Int) - 1)
 ·rw [Bool.false_and, Bool.false_and]
  simp only [go_sem]
 rw [Bool.true_and]
 simp only [go_sem]
 refine LoopK.intro (fun i : Nat => ⟨81, [(2, .pb 0 0), (3, .pb 1 0), (4, vb false), (5, vi i)], [vi m.kind, .sl 0 1 (m.states.map vStr), .sl 0 1 (m.places.map vStr), .sl 0 1 (m.letters.map vStr), vs 0 m.ranks, vi m.levels, vi m.age, .sl 0 14 (m.rules.map vRule), vi m.start.n, .sl 0 2 (m.start.kids.map vV)] :: [vStr r.name, vi r.src, vi r.dst, vs 0 r.need, vs 0 r.give, vs 0 r.move, vi r.channel, vi r.act, vi r.letter, vs 0 r.path, vs 0 r.next, .sl 0 3 (r.takes.map vTake), vs 0 r.makes, vi r.second] :: Rk 3 i⟩)
  (fun i => r.takes.length - i) (fun i => i <= r.takes.length /\ ∀ j, j < i -> (!badTake m.places.length m.age r.takes[j]!) = true) 0 ⟨by omega, fun j hj => by omega⟩ ?_ ?_
 ·simp only [go_sem]
  exact leB_self _
 rintro i ⟨hi, hb⟩
 by_cases h : i < r.takes.length
 ·have hg := getTake h
  have hw : IntKind.i64.wrap (i + 1) = i + 1 := wrap_in (by omega) (by omega)
  have hB' := Rk_len 3 i
  have n0 := fun L : List (List AV) => app_at0 (L := L) hB'
  have s0' := fun (L : List (List AV)) z => app_set0 (L := L) (z := z) hB'
  have cb := con_rbetween r.takes[i]!.1 0 ((m.places.length : Int) - 1)
  have hnext : badTake m.places.length m.age r.takes[i]! = false -> ∀ j, j < i + 1 -> (!badTake m.places.length m.age r.takes[j]!) = true := fun hk j hj => by
   by_cases hji : j = i
   ·rw [hji, hk]; rfl
   ·exact hb j (by omega)
  have hstop : badTake m.places.length m.age r.takes[i]! = true -> (r.takes.all fun t => !badTake m.places.length m.age t) = false := fun hk => all_bad (p := fun t => !badTake m.places.length m.age t) h (by rw [hk]; rfl)
  have hbt : badTake m.places.length m.age r.takes[i]! = (!indexB r.takes[i]!.1 m.places.length || decide (r.takes[i]!.2.1 < 0) || decide (r.takes[i]!.2.2 < r.takes[i]!.2.1) || decide (m.age + 1 < r.takes[i]!.2.2)) := rfl
  rw [index_between] at cb
  generalize r.takes[i]! = t at *
  simp only [go_sem, h, hg, hB', n0, s0', wp, List.length_map]
  refine CallU.free cb (by simp only [go_sem]) (by simp only [go_sem]) ?_
  rintro x bx rfl
  by_cases h2 : t.2.1 < 0
  ·have hk : badTake m.places.length m.age t = true := by rw [hbt, decide_eq_true h2]; simp
   rw [hstop hk, Bool.false_and]
   cases indexB t.1 m.places.length
   ·simp only [go_sem]
   ·simp only [go_sem, n0, h2]
  cases hi1 : indexB t.1 m.places.length
  ·have hk : badTake m.places.length m.age t = true := by rw [hbt, hi1]; rfl
   rw [hstop hk, Bool.false_and]
   simp only [go_sem]
  by_cases h3 : t.2.2 < t.2.1
  ·have hk : badTake m.places.length m.age t = true := by rw [hbt, decide_eq_true h3]; simp
   rw [hstop hk, Bool.false_and]
   simp only [go_sem, n0, h2, h3]
  by_cases h4 : m.age + 1 < t.2.2
  ·have hk : badTake m.places.length m.age t = true := by rw [hbt, decide_eq_true h4]; simp
   rw [hstop hk, Bool.false_and]
   simp only [go_sem, n0, h2, h3, wa, h4]
  have hk : badTake m.places.length m.age t = false := by rw [hbt, hi1, decide_eq_false h2, decide_eq_false h3, decide_eq_false h4]; rfl
  simp only [go_sem, n0, h2, h3, wa, h4, hw]
  refine roundK.intro (i + 1) ⟨by omega, hnext hk⟩ (by omega) ?_
  simp only [go_sem, Rk_succ]
  exact leB_RkA ⟨leC_any _ 3 rfl, trivial⟩
 have hall : (r.takes.all fun t => !badTake m.places.length m.age t) = true := all_ok (p := fun t => !badTake m.places.length m.age t) fun j hj => hb j (by omega)
 rw [hall, Bool.true_and]
 obtain rfl : i = r.takes.length := by omega
 simp only [go_sem, h]
 refine LoopK.intro (fun j : Nat => ⟨81, [(2, .pb 0 0), (3, .pb 1 0), (4, vb false), (7, vi j)], [vi m.kind, .sl 0 1 (m.states.map vStr), .sl 0 1 (m.places.map vStr), .sl 0 1 (m.letters.map vStr), vs 0 m.ranks, vi m.levels, vi m.age, .sl 0 14 (m.rules.map vRule), vi m.start.n, .sl 0 2 (m.start.kids.map vV)] :: [vStr r.name, vi r.src, vi r.dst, vs 0 r.need, vs 0 r.give, vs 0 r.move, vi r.channel, vi r.act, vi r.letter, vs 0 r.path, vs 0 r.next, .sl 0 3 (r.takes.map vTake), vs 0 r.makes, vi r.second] :: Rk 3 r.takes.length⟩)
  (fun j => r.makes.length - j) (fun j => 1 <= j /\ ∀ i, i < r.makes.length -> i < j -> i ≠ 0 -> ¬ r.makes[i]! < r.makes[i - 1]!) 1 ⟨by omega, fun i h1 h2 h3 => by omega⟩ ?_ ?_
 ·simp only [go_sem]
  all_goals exact ⟨leV_int rfl, leB_self _⟩
 rintro j ⟨hj, hs⟩
 by_cases hjl : j < r.makes.length
 ·have g1 := getv hjl
  have h2 : j - 1 < r.makes.length := by omega
  have g2 := getv h2
  have hw : IntKind.i64.wrap ((j : Int) - 1) = ((j - 1 : Nat) : Int) := by rw [wrap_in (by omega) (by omega)]; omega
  have hw2 : IntKind.i64.wrap (j + 1) = j + 1 := wrap_in (by omega) (by omega)
  simp only [go_sem, List.length_map, hjl]
  refine DrawK.walk 12 mixed (by kernel_rfl) ?_
  simp only [go_sem, hjl, g1, hw, h2, g2]
  by_cases hneg : r.makes[j]! < r.makes[j - 1]!
  ·have hbad := ascI_bad hjl (by omega) hneg
   rw [hbad]
   simp only [go_sem, hneg]
  ·simp only [go_sem, hneg, hw2]
   refine roundK.intro (j + 1) ⟨by omega, fun i h1 h3 h4 => ?_⟩ (by omega) ?_
   ·by_cases hji : i = j
    ·subst hji; exact hneg
    ·exact hs i h1 (by omega) h4
   ·simp only [go_sem]
    try exact leB_self _
 ·have e : ascI r.makes = true := ascI_good fun i h1 h2 => hs i h1 (by omega) h2
  rw [e]
  simp only [go_sem, List.length_map, hjl]
theorem two_false {a b : Nat} (h : (a == 0 && b == 0) = false) : 0 < a \/ (¬ 0 < a /\ 0 < b) := by
 rw [Bool.and_eq_false_iff, beq_eq_false_iff_ne, beq_eq_false_iff_ne] at h
 omega
theorem two_true {a b : Nat} (h : (a == 0 && b == 0) = true) : ¬ 0 < a /\ ¬ 0 < b := by
 rw [Bool.and_eq_true, beq_iff_eq, beq_iff_eq] at h
 omega
def z2 (r : RD) : Bool := r.need.length == 0 && r.give.length == 0
theorem z2_false {r : RD} (h : z2 r = false) : 0 < r.need.length \/ (¬ 0 < r.need.length /\ 0 < r.give.length) := two_false h
theorem z2_true {r : RD} (h : z2 r = true) : ¬ 0 < r.need.length /\ ¬ 0 < r.give.length := two_true h
def z3 (r : RD) : Bool := r.move.length == 0
theorem z3_false {r : RD} (h : z3 r = false) : 0 < r.move.length := by unfold z3 at h; rw [beq_eq_false_iff_ne] at h; omega
theorem z3_true {r : RD} (h : z3 r = true) : ¬ 0 < r.move.length := by unfold z3 at h; rw [beq_iff_eq] at h; omega
def z4 (r : RD) : Bool := r.channel == 0 && r.act == 0 && r.letter == 0
theorem z4_false {r : RD} (h : z4 r = false) : (r.channel != 0) = true \/ ((r.channel != 0) = false /\ (r.act != 0) = true) \/ ((r.channel != 0) = false /\ (r.act != 0) = false /\ (r.letter != 0) = true) := by
 unfold z4 at h
 unfold bne
 cases h1 : r.channel == 0 <;> cases h2 : r.act == 0 <;> cases h3 : r.letter == 0 <;> simp [h1, h2, h3] at h ⊢
theorem z4_true {r : RD} (h : z4 r = true) : (r.channel != 0) = false /\ (r.act != 0) = false /\ (r.letter != 0) = false := by
 unfold z4 at h
 rw [Bool.and_eq_true, Bool.and_eq_true] at h
 unfold bne
 rw [h.1.1, h.1.2, h.2]
 exact ⟨rfl, rfl, rfl⟩
def z5 (r : RD) : Bool := r.path.length == 0 && r.next.length == 0
theorem z5_false {r : RD} (h : z5 r = false) : 0 < r.path.length \/ (¬ 0 < r.path.length /\ 0 < r.next.length) := two_false h
theorem z5_true {r : RD} (h : z5 r = true) : ¬ 0 < r.path.length /\ ¬ 0 < r.next.length := two_true h
def z6 (r : RD) : Bool := r.takes.length == 0 && r.makes.length == 0
theorem z6_false {r : RD} (h : z6 r = false) : 0 < r.takes.length \/ (¬ 0 < r.takes.length /\ 0 < r.makes.length) := two_false h
theorem z6_true {r : RD} (h : z6 r = true) : ¬ 0 < r.takes.length /\ ¬ 0 < r.makes.length := two_true h
def q4z (r : RD) : Bool := !(r.act == 0 && (r.channel != 0 || r.letter != 0))
theorem q4z_false {r : RD} (h : q4z r = false) : (r.act == 0) = true /\ ((r.channel != 0) = true \/ ((r.channel != 0) = false /\ (r.letter != 0) = true)) := by
 unfold q4z at h
 cases h1 : r.channel != 0 <;> cases h2 : r.act == 0 <;> cases h3 : r.letter != 0 <;> simp [h1, h2, h3] at h ⊢
theorem q4z_true {r : RD} (h : q4z r = true) : (r.act == 0) = false \/ ((r.act == 0) = true /\ (r.channel != 0) = false /\ (r.letter != 0) = false) := by
 unfold q4z at h
 cases h1 : r.channel != 0 <;> cases h2 : r.act == 0 <;> cases h3 : r.letter != 0 <;> simp [h1, h2, h3] at h ⊢
def q7 (m : MD) (r : RD) : Bool := if r.src = -1 then r.second == -1 && r.need.all fun x => betweenB x 0 0 else betweenB r.second (-1) ((m.states.length : Int) - 1)
theorem con_rright1 (m : MD) (r : RD) (h : RightM m) (hr : LenR r) (hk : m.kind = 1) : Con Tryz.prog 76 [vM m, vRule r] [] fun x _ => x = vb (betweenB r.src 0 ((m.states.length : Int) - 1) && (betweenB r.dst 0 ((m.states.length : Int) - 1) && (listB r.need m.places.length 0 16 && (listB r.give m.places.length 0 16 && (((r.move.length == 0) || listB r.move m.places.length (-1) ((m.places.length : Int) - 1)) && (z4 r && (z5 r && (z6 r && ((r.second == 0)))))))))) := by
 refine Con.intro Tryz.func76 rfl Tryz.ntmps76 Tryz.results76 (by kernel_rfl) (by simp) 0 (by simp) ?_
 have h1 := h.states; have h2 := h.places; have h3 := h.letters
 have ws : IntKind.i64.wrap ((m.states.length : Int) - 1) = ((m.states.length : Int) - 1) := wrap_in (by omega) (by omega)
 have wp : IntKind.i64.wrap ((m.places.length : Int) - 1) = ((m.places.length : Int) - 1) := wrap_in (by omega) (by omega)
 have wl : IntKind.i64.wrap ((m.letters.length : Int) - 1) = ((m.letters.length : Int) - 1) := wrap_in (by omega) (by omega)
 have hp := hr.path; have hn := hr.next
 have wn : IntKind.i64.wrap ((r.path.length : Int) + (r.next.length : Int)) = (r.path.length : Int) + (r.next.length : Int) := wrap_in (by omega) (by omega)
 simp only [go_sem, vM, cM, vss, hk, List.length_map, ws]
 have cc := con_rbetween r.src 0 ((m.states.length : Int) - 1)
 refine CallU.free cc (by simp only [go_sem]) (by simp only [go_sem]) ?_
 rintro x bx rfl
 cases betweenB r.src 0 ((m.states.length : Int) - 1)
 ·rw [Bool.false_and]; simp only [go_sem]
 rw [Bool.true_and]
 simp only [go_sem, List.length_map, ws]
 have cc := con_rbetween r.dst 0 ((m.states.length : Int) - 1)
 refine CallU.free cc (by simp only [go_sem]) (by simp only [go_sem]) ?_
 rintro x bx rfl
 cases betweenB r.dst 0 ((m.states.length : Int) - 1)
 ·rw [Bool.false_and]; simp only [go_sem]
 rw [Bool.true_and]
 simp only [go_sem, List.length_map]
 have cc := con_rlistG r.need m.places.length 0 16 hr.len.need
 refine CallU.free cc (by simp only [go_sem]) (by simp only [go_sem]) ?_
 rintro x bx rfl
 cases listB r.need m.places.length 0 16
 ·rw [Bool.false_and]; simp only [go_sem]
 rw [Bool.true_and]
 simp only [go_sem, List.length_map]
 have cc := con_rlistG r.give m.places.length 0 16 hr.len.give
 refine CallU.free cc (by simp only [go_sem]) (by simp only [go_sem]) ?_
 rintro x bx rfl
 cases listB r.give m.places.length 0 16
 ·rw [Bool.false_and]; simp only [go_sem]
 rw [Bool.true_and]
 simp only [go_sem, List.length_map]
 by_cases hm : 0 < r.move.length
 ·have e3 : (r.move.length == 0) = false := beq_eq_false_iff_ne.2 (by omega)
  rw [e3, Bool.false_or]
  simp only [go_sem, List.length_map, wp, hm]
  have cc := con_rlistG r.move m.places.length (-1) ((m.places.length : Int) - 1) hr.len.move
  refine CallU.free cc (by simp only [go_sem]) (by simp only [go_sem]) ?_
  rintro x bx rfl
  cases listB r.move m.places.length (-1) ((m.places.length : Int) - 1)
  ·rw [Bool.false_and]; simp only [go_sem]
  rw [Bool.true_and]
  simp only [go_sem]
  cases hzz4 : z4 r
  ·rw [Bool.false_and]
   rcases z4_false hzz4 with a1 | ⟨b1, a2⟩ | ⟨b1, b2, a3⟩
   ·simp only [go_sem, a1]
   ·simp only [go_sem, b1, a2]
   ·simp only [go_sem, b1, b2, a3]
  rw [Bool.true_and]
  obtain ⟨z41, z42, z43⟩ := z4_true hzz4
  simp only [go_sem, List.length_map, z41, z42, z43]
  cases hzz5 : z5 r
  ·rw [Bool.false_and]
   rcases z5_false hzz5 with a1 | ⟨b1, a2⟩
   ·simp only [go_sem, a1]
   ·simp only [go_sem, List.length_map, b1, a2]
  rw [Bool.true_and]
  obtain ⟨z51, z52⟩ := z5_true hzz5
  simp only [go_sem, List.length_map, z51, z52]
  cases hzz6 : z6 r
  ·rw [Bool.false_and]
   rcases z6_false hzz6 with a1 | ⟨b1, a2⟩
   ·simp only [go_sem, a1]
   ·simp only [go_sem, List.length_map, b1, a2]
  rw [Bool.true_and]
  obtain ⟨z61, z62⟩ := z6_true hzz6
  simp only [go_sem, List.length_map, z61, z62]
 ·have e3 : (r.move.length == 0) = true := beq_iff_eq.2 (by omega)
  rw [e3, Bool.true_or, Bool.true_and]
  simp only [go_sem, hm]
  cases hzz4 : z4 r
  ·rw [Bool.false_and]
   rcases z4_false hzz4 with a1 | ⟨b1, a2⟩ | ⟨b1, b2, a3⟩
   ·simp only [go_sem, a1]
   ·simp only [go_sem, b1, a2]
   ·simp only [go_sem, b1, b2, a3]
  rw [Bool.true_and]
  obtain ⟨z41, z42, z43⟩ := z4_true hzz4
  simp only [go_sem, List.length_map, z41, z42, z43]
  cases hzz5 : z5 r
  ·rw [Bool.false_and]
   rcases z5_false hzz5 with a1 | ⟨b1, a2⟩
   ·simp only [go_sem, a1]
   ·simp only [go_sem, List.length_map, b1, a2]
  rw [Bool.true_and]
  obtain ⟨z51, z52⟩ := z5_true hzz5
  simp only [go_sem, List.length_map, z51, z52]
  cases hzz6 : z6 r
  ·rw [Bool.false_and]
   rcases z6_false hzz6 with a1 | ⟨b1, a2⟩
   ·simp only [go_sem, a1]
   ·simp only [go_sem, List.length_map, b1, a2]
  rw [Bool.true_and]
  obtain ⟨z61, z62⟩ := z6_true hzz6
  simp only [go_sem, List.length_map, z61, z62]
end Go.AM
