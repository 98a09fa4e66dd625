/- CmK CmL -/
import Derived.Test.YtebcmlhgfmkpnaaGreatg9
namespace Go.AM
open Go Go.Proofs Go.RowKit
set_option maxRecDepth 100000
attribute [go_sem] vM cM
theorem leC_any : ∀ (l : List AV) (n : Nat), l.length = n -> leC l (List.replicate n .any)
 | [], _, h => by subst h; exact trivial
 | x :: l, _, h => by subst h; exact ⟨leV_any x, leC_any l l.length rfl⟩
theorem take_map_succ {α β : Type} [Inhabited α] {l : List α} {i : Nat} (f : α -> β) (h : i < l.length) : (l.take (i + 1)).map f = (l.take i).map f ++ [f l[i]!] := by
 rw [List.take_add_one, List.getElem?_eq_getElem h, getElem!_pos l i h, List.map_append]; rfl
theorem metD_le : ∀ (n : Nat) (ks : List (List UInt8)), ks.length = n -> mapLen (metD ks) <= n := by
 intro n
 induction n with
 | zero => intro ks h; obtain rfl := List.eq_nil_of_length_eq_zero h; exact Nat.le_refl _
 | succ n ih =>
  intro ks h
  obtain ⟨ks', x, rfl⟩ : ∃ ks' x, ks = ks' ++ [x] := ⟨ks.dropLast, ks.getLast (by intro e; rw [e] at h; simp at h), (List.dropLast_concat_getLast _).symm⟩
  have ih' := ih ks' (by simpa using h)
  have e : ∀ D : DataW Unit, mapLen D = Go.Maps.size D := fun D => by cases D <;> rfl
  rw [<- metD_snoc, e, Go.Maps.size_put (metD_tidy _), <- e]
  split <;> omega
theorem names_bad {l : List ByteArray} {i : Nat} (h : i < l.length) (hb : okN l i = false) : namesB l = false := by
 unfold namesB
 rw [List.all_eq_false]
 exact ⟨i, List.mem_range.2 h, by rw [hb]; simp⟩
theorem names_ok {l : List ByteArray} (h : ∀ i, i < l.length -> okN l i = true) : namesB l = true := by
 unfold namesB
 rw [List.all_eq_true]
 exact fun i hi => h i (List.mem_range.1 hi)
def namesTo (m : MD) (i : Nat) : List ByteArray := m.states ++ m.places ++ m.letters ++ (m.rules.take i).map RD.name
theorem namesTo_zero (m : MD) : namesTo m 0 = m.states ++ m.places ++ m.letters := by simp [namesTo]
theorem namesTo_succ {m : MD} {i : Nat} (h : i < m.rules.length) : namesTo m (i + 1) = namesTo m i ++ [m.rules[i]!.name] := by
 unfold namesTo
 rw [List.take_add_one, List.getElem?_eq_getElem h, getElem!_pos m.rules i h, List.map_append]
 simp only [Option.toList, List.map_cons, List.map_nil, List.append_assoc]
theorem namesTo_all (m : MD) : namesTo m m.rules.length = namesOf m := by unfold namesTo namesOf; rw [List.take_length]
theorem namesTo_len {m : MD} {i : Nat} : (namesTo m i).length <= (namesOf m).length := by
 unfold namesTo namesOf
 simp only [List.length_append, List.length_map, List.length_take]; omega
theorem con_named (m : MD) (h1 : 1 <= m.states.length) (h2 : (namesOf m).length <= 1000000) (hs : ∀ s ∈ namesOf m, s.size <= 9223372036854775806) : Con Tryz.prog 156 [vM m] [] fun r _ => r = vb (namesB (namesOf m)) := by
 refine Con.intro Tryz.func156 rfl Tryz.ntmps156 Tryz.results156 (by kernel_rfl) (by simp) 1 (by simp) ?_
 have h2' := h2
 unfold namesOf at h2'
 simp only [List.length_append, List.length_map] at h2'
 simp only [go_sem]
 refine CallU.freeze (con_concatStr [m.states, m.places, m.letters] (by simp; omega) (by simp; omega) (by simp)) (by simp only [go_sem]) (by simp only [go_sem, List.map_cons, List.map_nil]) ?_
 rintro r bx rfl
 have e0 : [m.states, m.places, m.letters].flatten = namesTo m 0 := by rw [namesTo_zero]; simp
 rw [e0]
 simp only [go_sem]
 refine LoopK.intro (fun i : Nat => ⟨52, [(1, .pb 0 0), (2, vb false), (3, .mp 640 Tryz.prog 9 4 (metD [])), (4, .sl 1154 1 ((namesTo m i).map vStr)), (19, .sl 0 14 (m.rules.map vRule)), (20, vi m.rules.length), (21, vi i)], cM m :: Rk 14 i⟩)
  (fun i => m.rules.length - i) (fun i => i <= m.rules.length) 0 (by omega) ?_ ?_
 ·simp only [go_sem]
  all_goals exact ⟨leV_refl _, leB_self _⟩
 rintro i hi
 have hn := namesTo_len (m := m) (i := i)
 by_cases h : i < m.rules.length
 ·have hg := getRule h
  have hw : IntKind.i64.wrap (i + 1) = i + 1 := wrap_in (by omega) (by omega)
  have hB := Rk_len 14 i
  have n0 := fun L : List (List AV) => app_at0 (L := L) hB
  have s0 := fun (L : List (List AV)) z => app_set0 (L := L) (z := z) hB
  have e := namesTo_succ h
  simp only [go_sem, h, hg, hw, hB, n0, s0]
  refine ⟨by simp only [roomFor]; omega, ?_⟩
  refine roundK.intro (i + 1) (by omega) (by omega) ?_
  simp only [go_sem, Rk_succ, e, List.map_append, List.map_cons, List.map_nil]
  exact leB_RkA ⟨leC_any _ 14 rfl, trivial⟩
 obtain rfl : i = m.rules.length := by omega
 rw [namesTo_all]
 simp only [go_sem, h]
 generalize hL : namesOf m = l at *
 refine LoopK.intro (fun i : Nat => ⟨52, [(1, .pb 0 0), (2, vb false), (3, .mp 640 Tryz.prog 9 4 (metD ((l.take i).map fun s => s.data.toList))), (31, .sl 1154 1 (l.map vStr)), (32, vi l.length), (33, vi i)], cM m :: Rk 14 m.rules.length⟩)
  (fun i => l.length - i) (fun i => i <= l.length /\ ∀ j, j < i -> okN l j = true) 0 ⟨by omega, fun j hj => by omega⟩ ?_ ?_
 ·simp only [go_sem, List.take_zero, List.map_nil]
  all_goals exact leV_refl _
 rintro i ⟨hi, hb⟩
 by_cases h : i < l.length
 ·have hg := getStr h
  have hw : IntKind.i64.wrap (i + 1) = i + 1 := wrap_in (by omega) (by omega)
  have hz := hs l[i]! (mem_bangI h)
  simp only [go_sem, h, hg]
  refine CallU.free (con_word l[i]! hz) (by simp only [go_sem]) (by simp only [go_sem]) ?_
  rintro r bx rfl
  cases a1 : wordB l[i]!
  ·simp only [go_sem]
   rw [names_bad h (by unfold okN; rw [a1]; rfl)]
  simp only [go_sem]
  refine CallU.free (con_keyword l[i]!) (by simp only [go_sem]) (by simp only [go_sem]) ?_
  rintro r bx rfl
  cases a2 : keywordB l[i]!
  case true =>
   simp only [go_sem]
   rw [names_bad h (by unfold okN; rw [a1, a2]; rfl)]
  simp only [go_sem]
  refine evLookup_str (k := 9) (e := 4) (by kernel_rfl) Tryz.underlying9 Tryz.underlying4 tinfo_4 rfl (by omega) ?_
  rw [metD_at]
  cases a3 : ((l.take i).map fun s => s.data.toList).contains l[i]!.data.toList
  case true =>
   simp only [go_sem]
   rw [names_bad h (by unfold okN; rw [a1, a2, a3]; rfl)]
  simp only [go_sem]
  have hlen := metD_le i ((l.take i).map fun s => s.data.toList) (by rw [List.length_map, List.length_take]; omega)
  refine evMapPut_str (k := 9) (e := 4) (by kernel_rfl) Tryz.underlying9 Tryz.underlying4 (by omega) (by omega) ?_
  rw [metD_snoc]
  simp only [go_sem, hw]
  refine roundK.intro (i + 1) ⟨by omega, fun j hj => ?_⟩ (by omega) ?_
  ·by_cases hji : j = i
   ·subst hji; unfold okN; rw [a1, a2, a3]; rfl
   ·exact hb j (by omega)
  ·simp only [go_sem, take_map_succ (fun s : ByteArray => s.data.toList) h]
   all_goals exact leV_refl _
 ·simp only [go_sem, h]
  rw [names_ok (fun j hj => hb j (by omega))]
set_option maxHeartbeats 8000000
def limF (k : Int) : List Int :=
 if k = 1 \/ k = 6 then [1, 6, 0, 0, 0, 0, 0, 0] else if k = 2 \/ k = 3 then [1, 2, 1, 6, 0, 0, 0, 0] else if k = 4 then [0, 0, 1, 6, 1, 2, 0, 0] else [1, 6, 0, 0, 0, 0, 0, 3]
abbrev lim (k : Int) (j : Nat) : Int := (limF k).getD j 0
def limV (l : List Int) : AV := .ag [vi (l.getD 0 0), vi (l.getD 1 0), vi (l.getD 2 0), vi (l.getD 3 0), vi (l.getD 4 0), vi (l.getD 5 0), vi (l.getD 6 0), vi (l.getD 7 0)]
theorem con_of (k : Int) : Con Tryz.prog 238 [vi k] [] fun r _ => r = limV (limF k) := by
 refine Con.intro Tryz.func238 rfl Tryz.ntmps238 Tryz.results238 (by kernel_rfl) (by simp) 0 (by simp) ?_
 by_cases k1 : k = 1
 ·subst k1; simp only [go_sem]; rfl
 have b1 : (k == 1) = false := beq_eq_false_iff_ne.2 k1
 by_cases k6 : k = 6
 ·subst k6; simp only [go_sem]; rfl
 have b6 : (k == 6) = false := beq_eq_false_iff_ne.2 k6
 by_cases k2 : k = 2
 ·subst k2; simp only [go_sem]; rfl
 have b2 : (k == 2) = false := beq_eq_false_iff_ne.2 k2
 by_cases k3 : k = 3
 ·subst k3; simp only [go_sem]; rfl
 have b3 : (k == 3) = false := beq_eq_false_iff_ne.2 k3
 by_cases k4 : k = 4
 ·subst k4; simp only [go_sem]; rfl
 have b4 : (k == 4) = false := beq_eq_false_iff_ne.2 k4
 have e : limF k = [1, 6, 0, 0, 0, 0, 0, 3] := by unfold limF; rw [if_neg (by omega), if_neg (by omega), if_neg (by omega)]
 rw [e]
 simp only [go_sem, b1, b6, b2, b3, b4]
 rfl
def sizedB (m : MD) : Bool := betweenB m.states.length 1 8 && decide (m.rules.length <= 12) && betweenB m.places.length (lim m.kind 0) (lim m.kind 1) && betweenB m.letters.length (lim m.kind 2) (lim m.kind 3) && betweenB m.levels (lim m.kind 4) (lim m.kind 5) && betweenB m.age (lim m.kind 6) (lim m.kind 7)
theorem con_sized (m : MD) : Con Tryz.prog 154 [vM m] [] fun r _ => r = vb (sizedB m) := by
 refine Con.intro Tryz.func154 rfl Tryz.ntmps154 Tryz.results154 (by kernel_rfl) (by simp) 2 (by simp) ?_
 simp only [go_sem]
 refine CallU.free (con_of m.kind) (by simp only [go_sem]) (by simp only [go_sem]) ?_
 rintro r bx rfl
 simp only [go_sem, limV]
 refine CallU.free (con_between m.states.length 1 8) (by simp only [go_sem]) (by simp only [go_sem]) ?_
 rintro r bx rfl
 unfold sizedB
 cases h1 : betweenB m.states.length 1 8
 ·simp only [go_sem, Bool.false_and]
 by_cases h2 : (m.rules.length : Int) <= 12
 case neg =>
  have h2' : ¬ m.rules.length <= 12 := by omega
  simp only [go_sem, h2, h2', decide_false, Bool.and_false, Bool.false_and]
 have h2' : m.rules.length <= 12 := by omega
 simp only [go_sem, h2, decide_true]
 refine CallU.free (con_between m.places.length (lim m.kind 0) (lim m.kind 1)) (by simp only [go_sem]) (by simp only [go_sem]) ?_
 rintro r bx rfl
 cases h3 : betweenB m.places.length (lim m.kind 0) (lim m.kind 1)
 ·simp only [go_sem, Bool.false_and]
 simp only [go_sem]
 refine CallU.free (con_between m.letters.length (lim m.kind 2) (lim m.kind 3)) (by simp only [go_sem]) (by simp only [go_sem]) ?_
 rintro r bx rfl
 cases h4 : betweenB m.letters.length (lim m.kind 2) (lim m.kind 3)
 ·simp only [go_sem, Bool.false_and]
 simp only [go_sem]
 refine CallU.free (con_between m.levels (lim m.kind 4) (lim m.kind 5)) (by simp only [go_sem]) (by simp only [go_sem]) ?_
 rintro r bx rfl
 cases h5 : betweenB m.levels (lim m.kind 4) (lim m.kind 5)
 ·simp only [go_sem, Bool.false_and]
 simp only [go_sem]
 refine CallU.free (con_between m.age (lim m.kind 6) (lim m.kind 7)) (by simp only [go_sem]) (by simp only [go_sem]) ?_
 rintro r bx rfl
 simp only [go_sem, h2', decide_true, Bool.true_and]
def rankedB (m : MD) : Bool := if m.kind = 3 then decide (m.ranks.length = m.letters.length) && m.ranks.all fun r => betweenB r 0 5 else m.ranks.length == 0
theorem con_ranked1 (x : Int) : Con Tryz.prog 239 [vi x] [] fun r _ => r = .sc (.bool (!betweenB x 0 5)) := by
 refine Con.intro Tryz.func239 rfl Tryz.ntmps239 Tryz.results239 (by kernel_rfl) (by simp) 0 (by simp) ?_
 simp only [go_sem]
 refine CallU.free (con_between x 0 5) (by simp only [go_sem]) (by simp only [go_sem]) ?_
 rintro r bx rfl
 simp only [go_sem]
theorem con_ranked (m : MD) (h1 : m.ranks.length <= 9223372036854775806) : Con Tryz.prog 155 [vM m] [] fun r _ => r = vb (rankedB m) := by
 refine Con.intro Tryz.func155 rfl Tryz.ntmps155 Tryz.results155 (by kernel_rfl) (by simp) 1 (by simp) ?_
 unfold rankedB
 by_cases k3 : m.kind = 3
 case neg =>
  have b3 : (m.kind != 3) = true := bne_iff_ne.2 k3
  rw [if_neg k3]
  simp only [go_sem, b3]
  congr 2
  rw [Bool.eq_iff_iff]; simp
 rw [if_pos k3]
 have b3 : (m.kind != 3) = false := by rw [k3]; rfl
 by_cases hl : m.ranks.length = m.letters.length
 case neg =>
  have hl' : ((m.ranks.length : Int) == (m.letters.length : Int)) = false := beq_eq_false_iff_ne.2 (by omega)
  simp only [go_sem, b3, hl', hl, decide_false, Bool.false_and]
 have hl' : ((m.ranks.length : Int) == (m.letters.length : Int)) = true := beq_iff_eq.2 (by omega)
 simp only [go_sem, b3, hl']
 refine CallU.free (con_containsInt m.ranks 239 [] (fun r => !betweenB r 0 5) rfl (fun x _ => con_ranked1 x) h1) (by simp only [go_sem]) (by simp only [go_sem]) ?_
 rintro r bx rfl
 simp only [go_sem, any_not, hl, decide_true, Bool.true_and]
end Go.AM
