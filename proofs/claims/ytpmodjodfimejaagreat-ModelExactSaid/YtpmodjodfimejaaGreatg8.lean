/- CmK CmL CmM CmN CmO CmP CmQ CmR CmS CmT CrA CrB GA GB GC -/
import Derived.Test.YtpmodjodfimejaaGreatg7
namespace Go.AM
open Go Go.Proofs Go.RowKit
set_option maxRecDepth 100000
attribute [go_sem] vM cM
theorem leC_any : ∀ (l : List AV) (n : Nat), l.length = n -> leC l (List.replicate n .any)
 | [], _, h => by subst h; exact trivial
 | x :: l, _, h => by subst h; exact ⟨leV_any x, leC_any l l.length rfl⟩
theorem take_map_succ {α β : Type} [Inhabited α] {l : List α} {i : Nat} (f : α -> β) (h : i < l.length) : (l.take (i + 1)).map f = (l.take i).map f ++ [f l[i]!] := by
 rw [List.take_add_one, List.getElem?_eq_getElem h, getElem!_pos l i h, List.map_append]; rfl
theorem metD_le : ∀ (n : Nat) (ks : List (List UInt8)), ks.length = n -> mapLen (metD ks) <= n := by
 intro n
 induction n with
 | zero => intro ks h; obtain rfl := List.eq_nil_of_length_eq_zero h; exact Nat.le_refl _
 | succ n ih =>
  intro ks h
  obtain ⟨ks', x, rfl⟩ : ∃ ks' x, ks = ks' ++ [x] := ⟨ks.dropLast, ks.getLast (by intro e; rw [e] at h; simp at h), (List.dropLast_concat_getLast _).symm⟩
  have ih' := ih ks' (by simpa using h)
  have e : ∀ D : DataW Unit, mapLen D = Go.Maps.size D := fun D => by cases D <;> rfl
  rw [<- metD_snoc, e, Go.Maps.size_put (metD_tidy _), <- e]
  split <;> omega
theorem names_bad {l : List ByteArray} {i : Nat} (h : i < l.length) (hb : okN l i = false) : namesB l = false := by
 unfold namesB
 rw [List.all_eq_false]
 exact ⟨i, List.mem_range.2 h, by rw [hb]; simp⟩
theorem names_ok {l : List ByteArray} (h : ∀ i, i < l.length -> okN l i = true) : namesB l = true := by
 unfold namesB
 rw [List.all_eq_true]
 exact fun i hi => h i (List.mem_range.1 hi)
def namesTo (m : MD) (i : Nat) : List ByteArray := m.states ++ m.places ++ m.letters ++ (m.rules.take i).map RD.name
theorem namesTo_zero (m : MD) : namesTo m 0 = m.states ++ m.places ++ m.letters := by simp [namesTo]
theorem namesTo_succ {m : MD} {i : Nat} (h : i < m.rules.length) : namesTo m (i + 1) = namesTo m i ++ [m.rules[i]!.name] := by
 unfold namesTo
 rw [List.take_add_one, List.getElem?_eq_getElem h, getElem!_pos m.rules i h, List.map_append]
 simp only [Option.toList, List.map_cons, List.map_nil, List.append_assoc]
theorem namesTo_all (m : MD) : namesTo m m.rules.length = namesOf m := by unfold namesTo namesOf; rw [List.take_length]
theorem namesTo_len {m : MD} {i : Nat} : (namesTo m i).length <= (namesOf m).length := by
 unfold namesTo namesOf
 simp only [List.length_append, List.length_map, List.length_take]; omega
theorem con_named (m : MD) (h1 : 1 <= m.states.length) (h2 : (namesOf m).length <= 1000000) (hs : ∀ s ∈ namesOf m, s.size <= 9223372036854775806) : Con Tryz.prog 67 [vM m] [] fun r _ => r = vb (namesB (namesOf m)) := by
 refine Con.intro Tryz.func67 rfl Tryz.ntmps67 Tryz.results67 (by kernel_rfl) (by simp) 1 (by simp) ?_
 have h2' := h2
 unfold namesOf at h2'
 simp only [List.length_append, List.length_map] at h2'
 simp only [go_sem]
 refine CallU.freeze (con_concatStr [m.states, m.places, m.letters] (by simp; omega) (by simp; omega) (by simp)) (by simp only [go_sem]) (by simp only [go_sem, List.map_cons, List.map_nil]) ?_
 rintro r bx rfl
 have e0 : [m.states, m.places, m.letters].flatten = namesTo m 0 := by rw [namesTo_zero]; simp
 rw [e0]
 simp only [go_sem]
 refine LoopK.intro (fun i : Nat => ⟨52, [(1, .pb 0 0), (2, vb false), (3, .mp 640 Tryz.prog 9 4 (metD [])), (4, .sl 1154 1 ((namesTo m i).map vStr)), (19, .sl 0 14 (m.rules.map vRule)), (20, vi m.rules.length), (21, vi i)], cM m :: Rk 14 i⟩)
  (fun i => m.rules.length - i) (fun i => i <= m.rules.length) 0 (by omega) ?_ ?_
 ·simp only [go_sem]
  all_goals exact ⟨leV_refl _, leB_self _⟩
 rintro i hi
 have hn := namesTo_len (m := m) (i := i)
 by_cases h : i < m.rules.length
 ·have hg := getRule h
  have hw : IntKind.i64.wrap (i + 1) = i + 1 := wrap_in (by omega) (by omega)
  have hB := Rk_len 14 i
  have n0 := fun L : List (List AV) => app_at0 (L := L) hB
  have s0 := fun (L : List (List AV)) z => app_set0 (L := L) (z := z) hB
  have e := namesTo_succ h
  simp only [go_sem, h, hg, hw, hB, n0, s0]
  refine ⟨by simp only [roomFor]; omega, ?_⟩
  refine roundK.intro (i + 1) (by omega) (by omega) ?_
  simp only [go_sem, Rk_succ, e, List.map_append, List.map_cons, List.map_nil]
  exact leB_RkA ⟨leC_any _ 14 rfl, trivial⟩
 obtain rfl : i = m.rules.length := by omega
 rw [namesTo_all]
 simp only [go_sem, h]
 generalize hL : namesOf m = l at *
 refine LoopK.intro (fun i : Nat => ⟨52, [(1, .pb 0 0), (2, vb false), (3, .mp 640 Tryz.prog 9 4 (metD ((l.take i).map fun s => s.data.toList))), (31, .sl 1154 1 (l.map vStr)), (32, vi l.length), (33, vi i)], cM m :: Rk 14 m.rules.length⟩)
  (fun i => l.length - i) (fun i => i <= l.length /\ ∀ j, j < i -> okN l j = true) 0 ⟨by omega, fun j hj => by omega⟩ ?_ ?_
 ·simp only [go_sem, List.take_zero, List.map_nil]
  all_goals exact leV_refl _
 rintro i ⟨hi, hb⟩
 by_cases h : i < l.length
 ·have hg := getStr h
  have hw : IntKind.i64.wrap (i + 1) = i + 1 := wrap_in (by omega) (by omega)
  have hz := hs l[i]! (mem_bangI h)
  simp only [go_sem, h, hg]
  refine CallU.free (con_word l[i]! hz) (by simp only [go_sem]) (by simp only [go_sem]) ?_
  rintro r bx rfl
  cases a1 : wordB l[i]!
  ·simp only [go_sem]
   rw [names_bad h (by unfold okN; rw [a1]; rfl)]
  simp only [go_sem]
  refine CallU.free (con_keyword l[i]!) (by simp only [go_sem]) (by simp only [go_sem]) ?_
  rintro r bx rfl
  cases a2 : keywordB l[i]!
  case true =>
   simp only [go_sem]
   rw [names_bad h (by unfold okN; rw [a1, a2]; rfl)]
  simp only [go_sem]
  refine evLookup_str (k := 9) (e := 4) (by kernel_rfl) Tryz.underlying9 Tryz.underlying4 tinfo_4 rfl (by omega) ?_
  rw [metD_at]
  cases a3 : ((l.take i).map fun s => s.data.toList).contains l[i]!.data.toList
  case true =>
   simp only [go_sem]
   rw [names_bad h (by unfold okN; rw [a1, a2, a3]; rfl)]
  simp only [go_sem]
  have hlen := metD_le i ((l.take i).map fun s => s.data.toList) (by rw [List.length_map, List.length_take]; omega)
  refine evMapPut_str (k := 9) (e := 4) (by kernel_rfl) Tryz.underlying9 Tryz.underlying4 (by omega) (by omega) ?_
  rw [metD_snoc]
  simp only [go_sem, hw]
  refine roundK.intro (i + 1) ⟨by omega, fun j hj => ?_⟩ (by omega) ?_
  ·by_cases hji : j = i
   ·subst hji; unfold okN; rw [a1, a2, a3]; rfl
   ·exact hb j (by omega)
  ·simp only [go_sem, take_map_succ (fun s : ByteArray => s.data.toList) h]
   all_goals exact leV_refl _
 ·simp only [go_sem, h]
  rw [names_ok (fun j hj => hb j (by omega))]
set_option maxHeartbeats 8000000
def limF (k : Int) : List Int :=
 if k = 1 \/ k = 6 then [1, 6, 0, 0, 0, 0, 0, 0] else if k = 2 \/ k = 3 then [1, 2, 1, 6, 0, 0, 0, 0] else if k = 4 then [0, 0, 1, 6, 1, 2, 0, 0] else [1, 6, 0, 0, 0, 0, 0, 3]
abbrev lim (k : Int) (j : Nat) : Int := (limF k).getD j 0
def limV (l : List Int) : AV := .ag [vi (l.getD 0 0), vi (l.getD 1 0), vi (l.getD 2 0), vi (l.getD 3 0), vi (l.getD 4 0), vi (l.getD 5 0), vi (l.getD 6 0), vi (l.getD 7 0)]
theorem con_of (k : Int) : Con Tryz.prog 112 [vi k] [] fun r _ => r = limV (limF k) := by
 refine Con.intro Tryz.func112 rfl Tryz.ntmps112 Tryz.results112 (by kernel_rfl) (by simp) 0 (by simp) ?_
 by_cases k1 : k = 1
 ·subst k1; simp only [go_sem]; rfl
 have b1 : (k == 1) = false := beq_eq_false_iff_ne.2 k1
 by_cases k6 : k = 6
 ·subst k6; simp only [go_sem]; rfl
 have b6 : (k == 6) = false := beq_eq_false_iff_ne.2 k6
 by_cases k2 : k = 2
 ·subst k2; simp only [go_sem]; rfl
 have b2 : (k == 2) = false := beq_eq_false_iff_ne.2 k2
 by_cases k3 : k = 3
 ·subst k3; simp only [go_sem]; rfl
 have b3 : (k == 3) = false := beq_eq_false_iff_ne.2 k3
 by_cases k4 : k = 4
 ·subst k4; simp only [go_sem]; rfl
 have b4 : (k == 4) = false := beq_eq_false_iff_ne.2 k4
 have e : limF k = [1, 6, 0, 0, 0, 0, 0, 3] := by unfold limF; rw [if_neg (by omega), if_neg (by omega), if_neg (by omega)]
 rw [e]
 simp only [go_sem, b1, b6, b2, b3, b4]
 rfl
def sizedB (m : MD) : Bool := betweenB m.states.length 1 8 && decide (m.rules.length <= 12) && betweenB m.places.length (lim m.kind 0) (lim m.kind 1) && betweenB m.letters.length (lim m.kind 2) (lim m.kind 3) && betweenB m.levels (lim m.kind 4) (lim m.kind 5) && betweenB m.age (lim m.kind 6) (lim m.kind 7)
theorem con_sized (m : MD) : Con Tryz.prog 65 [vM m] [] fun r _ => r = vb (sizedB m) := by
 refine Con.intro Tryz.func65 rfl Tryz.ntmps65 Tryz.results65 (by kernel_rfl) (by simp) 2 (by simp) ?_
 simp only [go_sem]
 refine CallU.free (con_of m.kind) (by simp only [go_sem]) (by simp only [go_sem]) ?_
 rintro r bx rfl
 simp only [go_sem, limV]
 refine CallU.free (con_between m.states.length 1 8) (by simp only [go_sem]) (by simp only [go_sem]) ?_
 rintro r bx rfl
 unfold sizedB
 cases h1 : betweenB m.states.length 1 8
 ·simp only [go_sem, Bool.false_and]
 by_cases h2 : (m.rules.length : Int) <= 12
 case neg =>
  have h2' : ¬ m.rules.length <= 12 := by omega
  simp only [go_sem, h2, h2', decide_false, Bool.and_false, Bool.false_and]
 have h2' : m.rules.length <= 12 := by omega
 simp only [go_sem, h2, decide_true]
 refine CallU.free (con_between m.places.length (lim m.kind 0) (lim m.kind 1)) (by simp only [go_sem]) (by simp only [go_sem]) ?_
 rintro r bx rfl
 cases h3 : betweenB m.places.length (lim m.kind 0) (lim m.kind 1)
 ·simp only [go_sem, Bool.false_and]
 simp only [go_sem]
 refine CallU.free (con_between m.letters.length (lim m.kind 2) (lim m.kind 3)) (by simp only [go_sem]) (by simp only [go_sem]) ?_
 rintro r bx rfl
 cases h4 : betweenB m.letters.length (lim m.kind 2) (lim m.kind 3)
 ·simp only [go_sem, Bool.false_and]
 simp only [go_sem]
 refine CallU.free (con_between m.levels (lim m.kind 4) (lim m.kind 5)) (by simp only [go_sem]) (by simp only [go_sem]) ?_
 rintro r bx rfl
 cases h5 : betweenB m.levels (lim m.kind 4) (lim m.kind 5)
 ·simp only [go_sem, Bool.false_and]
 simp only [go_sem]
 refine CallU.free (con_between m.age (lim m.kind 6) (lim m.kind 7)) (by simp only [go_sem]) (by simp only [go_sem]) ?_
 rintro r bx rfl
 simp only [go_sem, h2', decide_true, Bool.true_and]
def rankedB (m : MD) : Bool := if m.kind = 3 then decide (m.ranks.length = m.letters.length) && m.ranks.all fun r => betweenB r 0 5 else m.ranks.length == 0
theorem con_ranked1 (x : Int) : Con Tryz.prog 113 [vi x] [] fun r _ => r = .sc (.bool (!betweenB x 0 5)) := by
 refine Con.intro Tryz.func113 rfl Tryz.ntmps113 Tryz.results113 (by kernel_rfl) (by simp) 0 (by simp) ?_
 simp only [go_sem]
 refine CallU.free (con_between x 0 5) (by simp only [go_sem]) (by simp only [go_sem]) ?_
 rintro r bx rfl
 simp only [go_sem]
theorem con_ranked (m : MD) (h1 : m.ranks.length <= 9223372036854775806) : Con Tryz.prog 66 [vM m] [] fun r _ => r = vb (rankedB m) := by
 refine Con.intro Tryz.func66 rfl Tryz.ntmps66 Tryz.results66 (by kernel_rfl) (by simp) 1 (by simp) ?_
 unfold rankedB
 by_cases k3 : m.kind = 3
 case neg =>
  have b3 : (m.kind != 3) = true := bne_iff_ne.2 k3
  rw [if_neg k3]
  simp only [go_sem, b3]
  congr 2
  rw [Bool.eq_iff_iff]; simp
 rw [if_pos k3]
 have b3 : (m.kind != 3) = false := by rw [k3]; rfl
 by_cases hl : m.ranks.length = m.letters.length
 case neg =>
  have hl' : ((m.ranks.length : Int) == (m.letters.length : Int)) = false := beq_eq_false_iff_ne.2 (by omega)
  simp only [go_sem, b3, hl', hl, decide_false, Bool.false_and]
 have hl' : ((m.ranks.length : Int) == (m.letters.length : Int)) = true := beq_iff_eq.2 (by omega)
 simp only [go_sem, b3, hl']
 refine CallU.free (con_containsInt m.ranks 113 [] (fun r => !betweenB r 0 5) rfl (fun x _ => con_ranked1 x) h1) (by simp only [go_sem]) (by simp only [go_sem]) ?_
 rintro r bx rfl
 simp only [go_sem, any_not, hl, decide_true, Bool.true_and]
theorem con_changes1 (x : Int) : Con Tryz.prog 166 [vi x] [] fun r _ => r = .sc (.bool (betweenB x 0 16)) := by
 refine Con.intro Tryz.func166 rfl Tryz.ntmps166 Tryz.results166 (by kernel_rfl) (by simp) 0 (by simp) ?_
 simp only [go_sem]
 refine CallU.free (con_between x 0 16) (by simp only [go_sem]) (by simp only [go_sem]) ?_
 rintro r bx rfl
 simp only [go_sem]
structure RD.Len (r : RD) : Prop where
 need : r.need.length <= 9223372036854775806
 give : r.give.length <= 9223372036854775806
 move : r.move.length <= 9223372036854775806
 path : r.path.length <= 9223372036854775806
 next : r.next.length <= 9223372036854775806
 takes : r.takes.length <= 9223372036854775806
 makes : r.makes.length <= 9223372036854775806
theorem con_changes (m : MD) (r : RD) (hl : r.Len) : Con Tryz.prog 119 [vM m, vRule r] [] fun x _ => x = vb (changesB m.places.length r) := by
 refine Con.intro Tryz.func119 rfl Tryz.ntmps119 Tryz.results119 (by kernel_rfl) (by simp) 2 (by simp) ?_
 unfold changesB
 by_cases h1 : r.need.length = m.places.length
 case neg =>
  have h1' : ((r.need.length : Int) == (m.places.length : Int)) = false := beq_eq_false_iff_ne.2 (by omega)
  simp only [go_sem, h1', h1, decide_false, Bool.false_and]
 have h1' : ((r.need.length : Int) == (m.places.length : Int)) = true := beq_iff_eq.2 (by omega)
 by_cases h2 : r.give.length = m.places.length
 case neg =>
  have h2' : ((r.give.length : Int) == (m.places.length : Int)) = false := beq_eq_false_iff_ne.2 (by omega)
  simp only [go_sem, h1', h2', h2, decide_false, Bool.false_and, Bool.and_false]
 have h2' : ((r.give.length : Int) == (m.places.length : Int)) = true := beq_iff_eq.2 (by omega)
 simp only [go_sem, h1', h2']
 refine CallU.free (con_all r.need 166 [] (fun x => betweenB x 0 16) rfl (fun x _ => con_changes1 x) hl.need) (by simp only [go_sem]) (by simp only [go_sem]) ?_
 rintro x bx rfl
 change _ /\ _
 cases h3 : smallB r.need
 ·have h3' : (r.need.all fun x => betweenB x 0 16) = false := h3
  simp only [go_sem, h3', Bool.false_and, Bool.and_false]
 have h3' : (r.need.all fun x => betweenB x 0 16) = true := h3
 simp only [go_sem, h3']
 refine CallU.free (con_all r.give 166 [] (fun x => betweenB x 0 16) rfl (fun x _ => con_changes1 x) hl.give) (by simp only [go_sem]) (by simp only [go_sem]) ?_
 rintro x bx rfl
 simp only [go_sem, h1, h2, decide_true, Bool.true_and]
 rfl
theorem con_moves1 (x : Int) (n : Nat) (hn : n <= 1000000) : Con Tryz.prog 167 [vi x, .fp [vi n] 0] [] fun r _ => r = .sc (.bool (betweenB x (-1) (n - 1))) := by
 refine Con.intro Tryz.func167 rfl Tryz.ntmps167 Tryz.results167 (by kernel_rfl) (by simp) 0 (by simp) ?_
 have hw : IntKind.i64.wrap ((n : Int) - 1) = n - 1 := wrap_in (by omega) (by omega)
 simp only [go_sem, hw]
 refine CallU.free (con_between x (-1) (n - 1)) (by simp only [go_sem]) (by simp only [go_sem]) ?_
 rintro r bx rfl
 simp only [go_sem]
theorem con_moves (m : MD) (r : RD) (hl : r.Len) (hm : m.places.length <= 1000000) : Con Tryz.prog 120 [vM m, vRule r] [] fun x _ => x = vb (movesB m.places.length r) := by
 refine Con.intro Tryz.func120 rfl Tryz.ntmps120 Tryz.results120 (by kernel_rfl) (by simp) 3 (by simp) ?_
 unfold movesB
 by_cases h1 : r.move.length = 0
 ·have h1' : ((r.move.length : Int) == 0) = true := beq_iff_eq.2 (by omega)
  simp only [go_sem, h1]
  all_goals simp
 have h1' : ((r.move.length : Int) == 0) = false := beq_eq_false_iff_ne.2 (by omega)
 have h1n : (r.move.length == 0) = false := beq_eq_false_iff_ne.2 h1
 by_cases h2 : r.move.length = m.places.length
 case neg =>
  have h2' : ((r.move.length : Int) == (m.places.length : Int)) = false := beq_eq_false_iff_ne.2 (by omega)
  simp only [go_sem, h1', h2', h1n, h2, decide_false, Bool.false_and, Bool.or_false]
 have h2' : ((r.move.length : Int) == (m.places.length : Int)) = true := beq_iff_eq.2 (by omega)
 simp only [go_sem, h1', h2']
 refine CallU.look (con_all r.move 167 [.fp [vi m.places.length] 0] (fun x => betweenB x (-1) (m.places.length - 1)) (by simp only [go_sem]) (fun x _ => con_moves1 x m.places.length hm) hl.move) (by simp only [go_sem]) (by simp only [go_sem]) ?_
 rintro x bx rfl
 simp only [go_sem]
 rw [h1n, decide_eq_true h2]; simp
theorem getTake {l : List (Int × Int × Int)} {i : Nat} (h : i < l.length) : (l.map vTake)[i]? = some (.ag [.sc (.int .i64 l[i]!.1), .sc (.int .i64 l[i]!.2.1), .sc (.int .i64 l[i]!.2.2)]) := by
 rw [List.getElem?_map, List.getElem?_eq_getElem h, getElem!_pos l i h, Option.map_some]; rfl
theorem eqA_stop {α : Type} [BEq α] [LawfulBEq α] [Inhabited α] {a b : List α} {i : Nat} (h : a[i]! ≠ b[i]!) : (a == b) = false := by
 rw [beq_eq_false_iff_ne]; intro e; rw [e] at h; exact h rfl
theorem eqA_all {α : Type} [BEq α] [LawfulBEq α] [Inhabited α] {a b : List α} (hl : a.length = b.length) (h : ∀ j, j < a.length -> a[j]! = b[j]!) : (a == b) = true := by
 rw [beq_iff_eq]
 apply List.ext_getElem hl
 intro i h1 h2
 have := h i h1
 rw [getElem!_pos a i h1, getElem!_pos b i h2] at this; exact this
theorem eqA_len {α : Type} [BEq α] [LawfulBEq α] {a b : List α} (h : a.length ≠ b.length) : (a == b) = false := by
 rw [beq_eq_false_iff_ne]; intro e; rw [e] at h; exact h rfl
@[go_sem] theorem flatF_Take : flatF Tryz.prog 92 = some [(0, true), (1, true), (2, true)] := by kernel_rfl
theorem con_equalTake (a b : List (Int × Int × Int)) (hl : a.length <= 9223372036854775806) : Con Tryz.prog 133 [.sl 0 3 (a.map vTake), .sl 0 3 (b.map vTake)] [] fun r _ => r = .sc (.bool (a == b)) := by
 refine Con.intro Tryz.func133 rfl Tryz.ntmps133 Tryz.results133 (by kernel_rfl) (by simp) 0 (by simp) ?_
 by_cases he : a.length = b.length
 case neg =>
  have he' : ((a.length : Int) != (b.length : Int)) = true := bne_iff_ne.2 (by omega)
  simp only [go_sem, he', eqA_len he]
 simp only [go_sem, he]
 refine LoopK.intro (fun i : Nat => ⟨26, [(0, .sl 0 3 (a.map vTake)), (1, .sl 0 3 (b.map vTake)), (12, vi a.length), (13, vi i)], []⟩)
  (fun i => a.length - i) (fun i => i <= a.length /\ ∀ j, j < i -> a[j]! = b[j]!) 0 ⟨by omega, fun j hj => by omega⟩ ?_ ?_
 ·simp only [go_sem, he]
  all_goals exact leV_refl _
 rintro i ⟨hi, hb⟩
 by_cases h : i < a.length
 ·have h2 : i < b.length := by omega
  have g1 := getTake h
  have g2 := getTake h2
  have hw : IntKind.i64.wrap (i + 1) = i + 1 := wrap_in (by omega) (by omega)
  simp only [go_sem, h]
  refine DrawK.walk 9 mixed (by kernel_rfl) ?_
  by_cases hp : a[i]! = b[i]!
  ·simp only [go_sem, h, h2, g1, g2, hp, hw]
   refine roundK.intro (i + 1) ⟨by omega, fun j hj => ?_⟩ (by omega) ?_
   ·by_cases hji : j = i
    ·subst hji; exact hp
    ·exact hb j (by omega)
   ·simp only [go_sem]
  ·have hp' : (a[i]!.fst == b[i]!.fst && (a[i]!.snd.fst == b[i]!.snd.fst && a[i]!.snd.snd == b[i]!.snd.snd)) = false := by
    rw [Bool.eq_false_iff]
    intro hh
    simp only [Bool.and_eq_true, beq_iff_eq] at hh
    exact hp (Prod.ext hh.1 (Prod.ext hh.2.1 hh.2.2))
   simp only [go_sem, h, h2, g1, g2, hp']
   rw [eqA_stop hp]
 ·simp only [go_sem, h]
  rw [eqA_all he (fun j hj => hb j (by omega))]
theorem Con.leA {P : Program} {f : FuncId} {args args' : List AV} {bx : List (List AV)} {post : AV -> List (List AV) -> Prop} (h : Con P f args bx post) (ha : leC args' args) : Con P f args' bx post :=
 h.args fun _ _ _ hv => leC_pw ha hv
theorem DrawK.meet {P : Program} {ops : Array Oper} {σ : St} {K : St -> Prop} (τ : St) (h : DrawK P ops σ fun σ' => σ'.le τ) (hk : K τ) : DrawK P ops σ K :=
 fun G0 w0 G a w id Q t hs hQ => h G0 w0 G a w id Q t hs fun _ G' a' w' hl h' => hQ τ G' a' w' hk (h'.le hl)
theorem andK_mk {p q : Prop} (h1 : p) (h2 : q) : andK p q := ⟨h1, h2⟩
def rightTree : Tr := .front 0 (.front 2 (.front 4 (.alt (.one 1 (.front 6 (.alt (.one 3 (.alt (.one 5 (.one 7 (.front 8 (.one 9 (.front 10 (.one 11 .done)))))) (.one 7 (.front 8 (.alt (.one 5 (.one 9 (.front 10 (.one 11 .done)))) (.one 9 (.one 5 (.front 10 (.one 11 .done))))))))) (.alt (.one 5 (.alt (.one 3 (.one 7 (.front 8 (.one 9 (.front 10 (.one 11 .done)))))) (.one 7 (.one 3 (.front 8 (.one 9 (.front 10 (.one 11 .done)))))))) (.one 7 (.alt (.one 3 (.front 8 (.alt (.one 5 (.one 9 (.front 10 (.one 11 .done)))) (.one 9 (.one 5 (.front 10 (.one 11 .done))))))) (.one 5 (.one 3 (.front 8 (.one 9 (.front 10 (.one 11 .done)))))))))))) (.alt (.one 3 (.alt (.one 1 (.front 6 (.alt (.one 5 (.one 7 (.front 8 (.one 9 (.front 10 (.one 11 .done)))))) (.one 7 (.front 8 (.alt (.one 5 (.one 9 (.front 10 (.one 11 .done)))) (.one 9 (.one 5 (.front 10 (.one 11 .done)))))))))) (.one 5 (.one 1 (.front 6 (.one 7 (.front 8 (.one 9 (.front 10 (.one 11 .done)))))))))) (.one 5 (.alt (.one 1 (.front 6 (.alt (.one 3 (.one 7 (.front 8 (.one 9 (.front 10 (.one 11 .done)))))) (.one 7 (.one 3 (.front 8 (.one 9 (.front 10 (.one 11 .done))))))))) (.one 3 (.one 1 (.front 6 (.one 7 (.front 8 (.one 9 (.front 10 (.one 11 .done))))))))))))))
theorem bare_of {r : RD} (h : bareB r = true) : r = ⟨r.name, r.src, r.dst, r.need, r.give, r.move, 0, 0, 0, [], [], [], [], 0⟩ := by
 unfold bareB at h
 simp only [Bool.and_eq_true, beq_iff_eq] at h
 obtain ⟨⟨⟨⟨⟨⟨⟨h1, h2⟩, h3⟩, h4⟩, h5⟩, h6⟩, h7⟩, h8⟩ := h
 obtain ⟨a, b, c, d, e, f, g, h, i, j, k, l, m, n⟩ := r
 simp only at h1 h2 h3 h4 h5 h6 h7 h8
 rw [h1, h2, h3, List.eq_nil_of_length_eq_zero h4, List.eq_nil_of_length_eq_zero h5, List.eq_nil_of_length_eq_zero h6, List.eq_nil_of_length_eq_zero h7, h8]
abbrev bareR (nm : ByteArray) (s d : Int) (nd gv mv : List Int) : RD := ⟨nm, s, d, nd, gv, mv, 0, 0, 0, [], [], [], [], 0⟩
def vPT (p : Int × Int) : AV := .ag [vi p.1, vi p.2, .nil, .nil]
def partsP (ns np : Nat) : List (Int × Int) := (2, (ns : Int)) :: List.replicate np (1, 0)
def flatT (t : Nat) (ps : List (Int × Int)) : AV := .ag [vi 3, vi 0, .nil, .sl t 4 (ps.map vPT)]
attribute [go_sem] vPT flatT
theorem parts_len (ns np : Nat) : (partsP ns np).length = np + 1 := by simp [partsP]
theorem parts_succ (ns i : Nat) : partsP ns (i + 1) = partsP ns i ++ [(1, 0)] := by unfold partsP; rw [List.replicate_succ']; rfl
theorem con_label (n : Nat) : Con Tryz.prog 137 [vi n] [] fun r _ => r = vPT (2, n) := by
 refine Con.intro Tryz.func137 rfl Tryz.ntmps137 Tryz.results137 (by kernel_rfl) (by simp) 0 (by simp) ?_
 simp only [go_sem]
mutual
def countV : CV -> Int -> Int
 | .mk _ kids, most => countVs kids most 1
def countVs : List CV -> Int -> Int -> Int
 | [], _, n => n
 | k :: l, most, n => if most < n then n else countVs l most (n + countV k (most - n))
end
mutual
theorem countV_bnd : ∀ (v : CV) (most : Int), 0 <= most -> 1 <= countV v most /\ countV v most <= most + 1
 | .mk _ kids, most, h => by
  have := countVs_bnd kids most 1 h (by omega) (by omega)
  rw [countV]; exact this
theorem countVs_bnd : ∀ (l : List CV) (most n : Int), 0 <= most -> 1 <= n -> n <= most + 1 -> 1 <= countVs l most n /\ countVs l most n <= most + 1
 | [], most, n, h, h1, h2 => by rw [countVs]; exact ⟨h1, h2⟩
 | k :: l, most, n, h, h1, h2 => by
  rw [countVs]
  by_cases hm : most < n
  ·rw [if_pos hm]; exact ⟨h1, h2⟩
  ·rw [if_neg hm]
   have := countV_bnd k (most - n) (by omega)
   exact countVs_bnd l most _ h (by omega) (by omega)
end
theorem drop_kid {l : List CV} {i : Nat} (h : i < l.length) : l.drop i = l[i]! :: l.drop (i + 1) := by
 rw [List.drop_eq_getElem_cons h, getElem!_pos l i h]
theorem con_count (v : CV) (most : Int) (h1 : 0 <= most) (h2 : most <= 128) (hv : v.Ok) : Con Tryz.prog 145 [vV v, vi most] [] fun r _ => r = vi (countV v most) := by
 have key : ∀ (s : Nat) (v : CV) (most : Int), SizeOf.sizeOf v <= s -> 0 <= most -> most <= 128 -> v.Ok -> Con Tryz.prog 145 [vV v, vi most] [] fun r _ => r = vi (countV v most) := by
  intro s
  induction s with
  | zero => intro v _ hs; cases v; rw [CV.mk.sizeOf_spec] at hs; omega
  | succ s ih =>
   intro v most hs h1 h2 hv
   have hlen := hv.len
   have e0 : countV v most = countVs v.kids most 1 := by cases v; rw [countV]; rfl
   rw [vV_eq, e0]
   refine Con.intro Tryz.func145 rfl Tryz.ntmps145 Tryz.results145 (by kernel_rfl) (by simp) 1 (by simp) ?_
   simp only [go_sem]
   refine LoopK.intro (fun q : Nat × Int => ⟨27, [(1, vi most), (2, .pb 0 0), (5, vi q.2), (9, .sl 0 2 (v.kids.map vV)), (10, vi v.kids.length), (11, vi q.1)], [vi v.n, .sl 0 2 (v.kids.map vV)] :: Rk 2 q.1⟩)
    (fun q => v.kids.length - q.1) (fun q => q.1 <= v.kids.length /\ 1 <= q.2 /\ q.2 <= most + 1 /\ countVs (v.kids.drop q.1) most q.2 = countVs v.kids most 1) (0, 1) ⟨by simp, by simp, by show (1 : Int) <= most + 1; omega, rfl⟩ ?_ ?_
   ·simp only [go_sem]
    exact leB_self _
   rintro ⟨i, n⟩ ⟨hi, hn1, hn2, he⟩
   simp only at hi hn1 hn2 he
   by_cases h : i < v.kids.length
   ·have hg := getvV h
    have hw : IntKind.i64.wrap (i + 1) = i + 1 := wrap_in (by omega) (by omega)
    have hB := Rk_len 2 i
    have n0 := fun L : List (List AV) => app_at0 (L := L) hB
    have s0 := fun (L : List (List AV)) z => app_set0 (L := L) (z := z) hB
    rw [drop_kid h, countVs] at he
    by_cases hm : most < n
    ·rw [if_pos hm] at he
     simp only [go_sem, h, hg, hB, n0, s0, hm]
     rw [he]
    ·rw [if_neg hm] at he
     have hmem : v.kids[i]! ∈ v.kids := mem_bangI h
     have hk := countV_bnd v.kids[i]! (most - n) (by omega)
     have hw2 : IntKind.i64.wrap (most - n) = most - n := wrap_in (by omega) (by omega)
     have hw3 : IntKind.i64.wrap (n + countV v.kids[i]! (most - n)) = n + countV v.kids[i]! (most - n) := wrap_in (by omega) (by omega)
     simp only [go_sem, h, hg, hB, n0, s0, hm, hw2]
     refine CallU.free (ih v.kids[i]! (most - n) (by have := kid_size hmem; omega) (by omega) (by omega) (hv.kid hmem)) (by simp only [go_sem]) (by simp only [go_sem, vV_eq]) ?_
     rintro r bx rfl
     simp only [go_sem, hw, hw3]
     refine roundK.intro (i + 1, n + countV v.kids[i]! (most - n)) ⟨by show i + 1 <= _; omega, by show 1 <= n + _; omega, by show n + _ <= most + 1; omega, he⟩ (by show v.kids.length - (i + 1) < v.kids.length - i; omega) ?_
     simp only [go_sem, Rk_succ]
     exact leB_RkA ⟨leC_any _ 2 rfl, trivial⟩
   ·obtain rfl : i = v.kids.length := by omega
    rw [List.drop_length, countVs] at he
    simp only [go_sem, h, he]
 exact key _ v most (Nat.le_refl _) h1 h2 hv
theorem con_size (v : CV) (hv : v.Ok) : Con Tryz.prog 91 [vV v] [] fun r _ => r = vi (countV v 128) := by
 rw [vV_eq]
 refine Con.intro Tryz.func91 rfl Tryz.ntmps91 Tryz.results91 (by kernel_rfl) (by simp) 1 (by simp) ?_
 simp only [go_sem]
 refine CallU.free (con_count v 128 (by omega) (by omega) hv) (by simp only [go_sem]) (by simp only [go_sem, vV_eq]) ?_
 rintro r bx rfl
 have hb := countV_bnd v 128 (by omega)
 have e : min (countV v 128) 129 = countV v 128 := by omega
 simp only [go_sem, e]
theorem zero_len {α : Type} (l : List α) : ((l.length : Int) == 0) = (l.length == 0) := by rw [Bool.eq_iff_iff]; simp
theorem con_olabel (v : CV) (s : Int) : Con Tryz.prog 177 [vV v, vi s] [] fun r _ => r = vb (decide (0 <= v.n) && decide (v.n < s) && v.kids.length == 0) := by
 rw [vV_eq]
 refine Con.intro Tryz.func177 rfl Tryz.ntmps177 Tryz.results177 (by kernel_rfl) (by simp) 1 (by simp) ?_
 by_cases h1 : 0 <= v.n
 ·by_cases h2 : v.n < s
  ·simp only [go_sem, h1, h2, zero_len, decide_true, Bool.true_and]
  ·simp only [go_sem, h1, h2, decide_false, Bool.false_and, Bool.and_false]
 ·simp only [go_sem, h1, decide_false, Bool.false_and]
theorem count_leaf {k : CV} (h : k.kids.length = 0) (most : Int) : countV k most = 1 := by
 obtain ⟨n, kids⟩ := k
 have : kids = [] := List.eq_nil_of_length_eq_zero h
 subst this
 rw [countV, countVs]
theorem count_leafs : ∀ (l : List CV) (most n : Int), (∀ k ∈ l, k.kids.length = 0) -> n + l.length <= most + 1 -> countVs l most n = n + l.length
 | [], most, n, _, _ => by rw [countVs]; simp
 | k :: l, most, n, h, hb => by
  simp only [List.length_cons] at hb ⊢
  rw [countVs, if_neg (by omega), count_leaf (h k (List.mem_cons_self ..)), count_leafs l most (n + 1) (fun x hx => h x (List.mem_cons_of_mem _ hx)) (by omega)]
  omega
def stillB (r : RD) : Bool := r.move.length == 0
def cfgC (s : Nat) (v : List Int) : CV := .mk 0 (.mk s [] :: v.map fun n => .mk n [])
theorem con_rbetween (x lo hi : Int) : Con Tryz.prog 72 [vi x, vi lo, vi hi] [] fun r _ => r = vb (betweenB x lo hi) := by
 refine Con.intro Tryz.func72 rfl Tryz.ntmps72 Tryz.results72 (by kernel_rfl) (by simp) 0 (by simp) ?_
 unfold betweenB
 by_cases h1 : lo <= x
 ·by_cases h2 : x <= hi
  ·simp only [go_sem, h1, h2, decide_true, Bool.and_true]
  ·simp only [go_sem, h1, h2, decide_true, decide_false, Bool.and_false]
 ·simp only [go_sem, h1, decide_false, Bool.false_and]
theorem between_true {x lo hi : Int} (h1 : lo <= x) (h2 : x <= hi) : betweenB x lo hi = true := by
 unfold betweenB; rw [decide_eq_true h1, decide_eq_true h2]; rfl
theorem con_rletter (c : UInt8) : Con Tryz.prog 174 [u8v c] [] fun r _ => r = vb (partB c) := by
 refine Con.intro Tryz.func174 rfl Tryz.ntmps174 Tryz.results174 (by kernel_rfl) (by simp) 0 (by simp) ?_
 unfold partB
 rw [u8_eq (k := 95) (c := c) (n := 95) rfl, letterB_eq, digitB_eq]
 by_cases h1 : (97 : Int) <= (c.toNat : Int) <;> by_cases h2 : (c.toNat : Int) <= 122 <;> by_cases h3 : (48 : Int) <= (c.toNat : Int) <;> by_cases h4 : (c.toNat : Int) <= 57 <;>
  (simp only [go_sem, h1, h2, h3, h4, decide_true, decide_false, Bool.and_true, Bool.and_false, Bool.true_or, Bool.or_true, Bool.false_or, Bool.or_false]; all_goals simp)
theorem ba_eq {a b : ByteArray} : (a.toList == b.toList) = (a.data.toList == b.data.toList) := by rw [ByteArray.toList_eq, ByteArray.toList_eq]
theorem keyword_no {s : ByteArray} (h : keywordB s = false) {i : Nat} (hi : i < kwL.length) : (kwL[i]!.toList == s.toList) = false := by
 unfold keywordB at h
 rw [List.any_eq_false] at h
 have := h kwL[i]! (mem_bangI hi)
 rw [Bool.not_eq_true] at this
 rw [beq_eq_false_iff_ne] at this ⊢
 exact fun e => this e.symm
theorem kwL_len : kwL.length = 18 := rfl
theorem con_rkeyword (s : ByteArray) (hk : keywordB s = false) : Con Tryz.prog 127 [vStr s] [] fun r _ => r = vb false := by
 refine Con.intro Tryz.func127 rfl Tryz.ntmps127 Tryz.results127 (by kernel_rfl) (by simp) 0 (by simp) ?_
 simp only [go_sem]
 refine LoopK.intro (fun i : Nat => ⟨18, [(0, vStr s), (3, .sl 384 1 (kwL.map vStr)), (4, vi i)], []⟩) (fun i => 18 - i) (fun i => i <= 18) 0 (by omega) ?_ ?_
 ·simp only [go_sem, kwL, List.map_cons, List.map_nil]
 rintro i hi
 by_cases h : i < 18
 ·have hl : i < kwL.length := by rw [kwL_len]; exact h
  have hg := getStr hl
  have hw : IntKind.i64.wrap (i + 1) = i + 1 := wrap_in (by omega) (by omega)
  have hn := keyword_no hk hl
  simp only [go_sem, kwL_len, h, hg, hn, hw]
  refine roundK.intro (i + 1) (by omega) (by omega) ?_
  simp only [go_sem]
 ·simp only [go_sem, kwL_len, h]
def namesTree : Tr := .front 0 (.front 3 (.front 6 (.alt (.one 1 (.alt (.one 2 (.alt (.one 4 (.alt (.one 5 (.one 7 (.one 8 (.one 9 .done)))) (.one 7 (.one 5 (.one 8 (.one 9 .done)))))) (.one 7 (.one 4 (.one 5 (.one 8 (.one 9 .done))))))) (.alt (.one 4 (.alt (.one 2 (.alt (.one 5 (.one 7 (.one 8 (.one 9 .done)))) (.one 7 (.one 5 (.one 8 (.one 9 .done)))))) (.one 7 (.one 2 (.one 5 (.one 8 (.one 9 .done))))))) (.one 7 (.alt (.one 2 (.one 4 (.one 5 (.one 8 (.one 9 .done))))) (.one 4 (.one 2 (.one 5 (.one 8 (.one 9 .done)))))))))) (.alt (.one 4 (.alt (.one 1 (.alt (.one 2 (.alt (.one 5 (.one 7 (.one 8 (.one 9 .done)))) (.one 7 (.one 5 (.one 8 (.one 9 .done)))))) (.one 7 (.one 2 (.one 5 (.one 8 (.one 9 .done))))))) (.one 7 (.one 1 (.one 2 (.one 5 (.one 8 (.one 9 .done)))))))) (.one 7 (.alt (.one 1 (.alt (.one 2 (.one 4 (.one 5 (.one 8 (.one 9 .done))))) (.one 4 (.one 2 (.one 5 (.one 8 (.one 9 .done))))))) (.one 4 (.one 1 (.one 2 (.one 5 (.one 8 (.one 9 .done))))))))))))
theorem con_nan (x : Int) : Con Tryz.prog 175 [vi x] [] fun r _ => r = .sc (.bool false) := by
 refine Con.intro Tryz.func175 rfl Tryz.ntmps175 Tryz.results175 (by kernel_rfl) (by simp) 0 (by simp) ?_
 simp only [go_sem]
theorem con_cmpI (x y : Int) : Con Tryz.prog 135 [vi x, vi y] [] fun r _ => r = vi (ordI x y) := by
 refine Con.intro Tryz.func135 rfl Tryz.ntmps135 Tryz.results135 (by kernel_rfl) (by simp) 0 (by simp) ?_
 simp only [go_sem]
 refine CallU.free (con_nan x) (by simp only [go_sem]) (by simp only [go_sem]) ?_
 rintro r bx rfl
 simp only [go_sem]
 refine CallU.free (con_nan y) (by simp only [go_sem]) (by simp only [go_sem]) ?_
 rintro r bx rfl
 by_cases h1 : x < y
 ·have e : ordI x y = -1 := by unfold ordI; rw [if_pos h1]
  simp only [go_sem, h1, e]
 by_cases h2 : y < x
 ·have e : ordI x y = 1 := by unfold ordI; rw [if_neg h1, if_pos h2]
  simp only [go_sem, h1, h2, e]
 ·have e : ordI x y = 0 := by unfold ordI; rw [if_neg h1, if_neg h2]
  simp only [go_sem, h1, h2, e]
theorem con_rorderI (x y : Int) : Con Tryz.prog 148 [vi x, vi y] [] fun r _ => r = vi (ordI x y) := by
 refine Con.intro Tryz.func148 rfl Tryz.ntmps148 Tryz.results148 (by kernel_rfl) (by simp) 0 (by simp) ?_
 by_cases h1 : x < y
 ·have e : ordI x y = -1 := by unfold ordI; rw [if_pos h1]
  simp only [go_sem, h1, e]
 by_cases h2 : y < x
 ·have e : ordI x y = 1 := by unfold ordI; rw [if_neg h1, if_pos h2]
  simp only [go_sem, h1, h2, e]
 ·have e : ordI x y = 0 := by unfold ordI; rw [if_neg h1, if_neg h2]
  simp only [go_sem, h1, h2, e]
theorem con_or (l : List Int) (hl : l.length <= 9223372036854775807) : Con Tryz.prog 134 [vs 0 l] [] fun r _ => r = vi (orF l) := by
 refine Con.intro Tryz.func134 rfl Tryz.ntmps134 Tryz.results134 (by kernel_rfl) (by simp) 0 (by simp) ?_
 simp only [go_sem]
 refine LoopK.intro (fun i : Nat => ⟨18, [(3, vi 0), (6, vs 0 l), (7, vi l.length), (8, vi i)], []⟩)
  (fun i => l.length - i) (fun i => i <= l.length /\ orF (l.drop i) = orF l) 0 ⟨by omega, rfl⟩ ?_ ?_
 ·simp only [go_sem]
 rintro i ⟨hi, he⟩
 by_cases h : i < l.length
 ·have g1 := getv h
  have hw : IntKind.i64.wrap (i + 1) = i + 1 := wrap_in (by omega) (by omega)
  have hd : l.drop i = l[i]! :: l.drop (i + 1) := by rw [<- List.getElem_cons_drop h, <- getElem!_pos l i h]
  rw [hd] at he
  by_cases h0 : l[i]! = 0
  ·have hb : (l[i]! != 0) = false := by simp [h0]
   simp only [go_sem, h, g1, hb, hw]
   refine roundK.intro (i + 1) ⟨by omega, ?_⟩ (by omega) ?_
   ·rw [<- he]; unfold orF; rw [List.find?_cons_of_neg (by rw [hb]; simp)]
   ·simp only [go_sem]
  ·have hb : (l[i]! != 0) = true := bne_iff_ne.2 h0
   have e : orF l = l[i]! := by rw [<- he]; unfold orF; rw [List.find?_cons_of_pos (by exact hb)]; rfl
   simp only [go_sem, h, g1, hb, e]
 ·have e : orF l = 0 := by rw [<- he, List.drop_of_length_le (by omega)]; rfl
  simp only [go_sem, h, e]
theorem con_cmpfn (k l : List CV) (hk : k.length <= 9223372036854775807) (hl : l.length <= 9223372036854775807)
  (hrec : ∀ x ∈ k, ∀ y ∈ l, Con Tryz.prog 82 [vV x, vV y] [] fun r _ => r = vi (cmpV x y)) :
  Con Tryz.prog 136 [.sl 0 2 (k.map vV), .sl 0 2 (l.map vV), .fn 82 []] [] fun r _ => r = vi (cmpVs k l) := by
 refine Con.intro Tryz.func136 rfl Tryz.ntmps136 Tryz.results136 (by kernel_rfl) (by simp) 0 (by simp) ?_
 simp only [go_sem]
 refine LoopK.intro (fun i : Nat => ⟨39, [(0, .sl 0 2 (k.map vV)), (1, .sl 0 2 (l.map vV)), (2, .fn 82 []), (11, .sl 0 2 (k.map vV)), (12, vi k.length), (13, vi i)], Rk 2 (2 * i)⟩)
  (fun i => k.length - i) (fun i => i <= k.length /\ i <= l.length /\ cmpVs (k.drop i) (l.drop i) = cmpVs k l) 0 ⟨by omega, by omega, rfl⟩ ?_ ?_
 ·simp only [go_sem]
  first | trivial | exact leB_self _
 rintro i ⟨hi, hi2, he⟩
 by_cases h : i < k.length
 case neg =>
  have hie : i = k.length := by omega
  subst hie
  rw [List.drop_length] at he
  by_cases h2 : k.length < l.length
  ·have e : cmpVs k l = -1 := by
    rw [<- he]
    cases hd : l.drop k.length with
    | nil => have := congrArg List.length hd; rw [List.length_drop] at this; simp at this; omega
    | cons y t => rfl
   simp only [go_sem, h, h2, e]
  ·have e : cmpVs k l = 0 := by rw [<- he, List.drop_of_length_le (by omega)]; rfl
   simp only [go_sem, h, h2, e]
 have g1 := getvV h
 have hw : IntKind.i64.wrap (i + 1) = i + 1 := wrap_in (by omega) (by omega)
 have hB := Rk_len 2 (2 * i)
 have d1 : k.drop i = k[i]! :: k.drop (i + 1) := by rw [<- List.getElem_cons_drop h, <- getElem!_pos k i h]
 rw [d1] at he
 have n0 := fun L : List (List AV) => app_at0 (L := L) hB
 have n1 := fun L : List (List AV) => app_at1 (L := L) hB
 have s0 := fun (L : List (List AV)) z => app_set0 (L := L) (z := z) hB
 have s1 := fun (L : List (List AV)) z => app_set1 (L := L) (z := z) hB
 by_cases h2 : i < l.length
 case neg =>
  have e : cmpVs k l = 1 := by rw [<- he, show l.drop i = [] from List.drop_of_length_le (by omega)]; rfl
  have h3 : (l.length : Int) <= i := by omega
  simp only [go_sem, h, g1, hB, n0, s0, h3, e]
 have d2 : l.drop i = l[i]! :: l.drop (i + 1) := by rw [<- List.getElem_cons_drop h2, <- getElem!_pos l i h2]
 rw [d2, cmpVs] at he
 have g2 := getvV h2
 have h3 : ¬ ((l.length : Int) <= i) := by omega
 have hc := hrec _ (mem_bangI h) _ (mem_bangI h2)
 rw [vV_eq k[i]!, vV_eq l[i]!] at hc
 simp only [go_sem, h, h2, g1, g2, hB, n0, s0, n1, s1, h3, List.append_assoc, List.length_append, List.length_cons, List.length_nil]
 refine CallU.free hc (by simp only [go_sem]) (by simp only [go_sem]) ?_
 rintro r bx rfl
 by_cases h4 : cmpV k[i]! l[i]! = 0
 ·have h5 : (cmpV k[i]! l[i]! != 0) = false := by rw [h4]; rfl
  rw [if_neg (fun h' => h' h4)] at he
  simp only [go_sem, h5, hw]
  refine roundK.intro (i + 1) ⟨by omega, by omega, he⟩ (by omega) ?_
  simp only [go_sem, show 2 * (i + 1) = 2 * i + 1 + 1 by omega, Rk_succ2]
 ·have h5 : (cmpV k[i]! l[i]! != 0) = true := bne_iff_ne.2 h4
  rw [if_pos h4] at he
  rw [he] at h5
  simp only [go_sem, he, h5]
theorem con_compare : ∀ (N : Nat) (a b : CV), SizeOf.sizeOf a <= N -> a.Ok -> b.Ok -> Con Tryz.prog 82 [vV a, vV b] [] fun r _ => r = vi (cmpV a b) := by
 intro N
 induction N with
 | zero => intro a b hN; cases a; simp at hN
 | succ N ih =>
 intro a b hN ha hb
 have hc := con_cmpfn a.kids b.kids ha.len hb.len fun x hx y hy => ih x y (by have := kid_size hx; omega) (ha.kid hx) (hb.kid hy)
 have hor := or_cmp a b
 rw [vV_eq a, vV_eq b]
 refine Con.intro Tryz.func82 rfl Tryz.ntmps82 Tryz.results82 (by kernel_rfl) (by simp) 0 (by simp) ?_
 simp only [go_sem]
 refine DrawK.walk 18 mixed (by kernel_rfl) ?_
 simp only [go_sem]
 refine CallY.mk (con_cmpI a.n b.n) (by simp only [go_sem]) (by simp only [go_sem]) (.inl rfl) ?_
 simp only [go_sem]
 refine CallY.mk (con_cmpI a.kids.length b.kids.length) (by simp only [go_sem]) (by simp only [go_sem]) (.inl rfl) ?_
 simp only [go_sem]
 refine CallY.mk hc (by simp only [go_sem]) (by simp only [go_sem]) (.inl rfl) ?_
 simp only [go_sem]
 refine CallU.flat (con_or [ordI a.n b.n, ordI a.kids.length b.kids.length, cmpVs a.kids b.kids] (by simp)) (by simp only [go_sem]) (by simp only [go_sem]) ?_
 rintro r bx rfl
 simp only [go_sem, hor]
theorem con_rcompare : ∀ (N : Nat) (a b : CV), SizeOf.sizeOf a <= N -> a.Ok -> b.Ok -> Con Tryz.prog 94 [vV a, vV b] [] fun r _ => r = vi (cmpV a b) := by
 intro N
 induction N with
 | zero => intro a b hN; cases a; simp at hN
 | succ N ih =>
 intro a b hN ha hb
 have hrec : ∀ x ∈ a.kids, ∀ y ∈ b.kids, Con Tryz.prog 94 [vV x, vV y] [] fun r _ => r = vi (cmpV x y) := fun x hx y hy => ih x y (by have := kid_size hx; omega) (ha.kid hx) (hb.kid hy)
 have hal := ha.len
 have hbl := hb.len
 rw [vV_eq a, vV_eq b]
 have hcmp : cmpV a b = if a.n ≠ b.n then ordI a.n b.n else if a.kids.length ≠ b.kids.length then ordI a.kids.length b.kids.length else cmpVs a.kids b.kids := by cases a; cases b; rw [cmpV]; rfl
 refine Con.intro Tryz.func94 rfl Tryz.ntmps94 Tryz.results94 (by kernel_rfl) (by simp) 0 (by simp) ?_
 simp only [go_sem]
 by_cases h1 : a.n = b.n
 case neg =>
  have h1' : (a.n != b.n) = true := bne_iff_ne.2 h1
  rw [if_pos h1] at hcmp
  simp only [go_sem, h1']
  refine CallU.free (con_rorderI a.n b.n) (by simp only [go_sem]) (by simp only [go_sem]) ?_
  rintro r bx rfl
  simp only [go_sem, hcmp]
 have h1' : (a.n != b.n) = false := by simp [h1]
 rw [if_neg (fun h => h h1)] at hcmp
 by_cases h2 : a.kids.length = b.kids.length
 case neg =>
  rw [if_pos h2] at hcmp
  simp only [go_sem, h1', h2]
  refine CallU.free (con_rorderI a.kids.length b.kids.length) (by simp only [go_sem]) (by simp only [go_sem]) ?_
  rintro r bx rfl
  simp only [go_sem, hcmp]
 rw [if_neg (fun h => h h2)] at hcmp
 simp only [go_sem, h1', h2]
 refine LoopK.intro (fun i : Nat => ⟨52, [(2, .pb 0 0), (3, .pb 1 0), (5, vi i)], [[vi a.n, .sl 0 2 (a.kids.map vV)], [vi b.n, .sl 0 2 (b.kids.map vV)]]⟩)
  (fun i => a.kids.length - i) (fun i => i <= a.kids.length /\ cmpVs (a.kids.drop i) (b.kids.drop i) = cmpVs a.kids b.kids) 0 ⟨by omega, rfl⟩ ?_ ?_
 ·simp only [go_sem]
 rintro i ⟨hi, he⟩
 by_cases h : i < a.kids.length
 case neg =>
  have e : cmpVs a.kids b.kids = 0 := by rw [<- he, List.drop_of_length_le (by omega), List.drop_of_length_le (by omega)]; rfl
  rw [e] at hcmp
  have h' : ¬ (i < b.kids.length) := by omega
  simp only [go_sem, h2, h', hcmp]
 have h' : i < b.kids.length := by omega
 have hw : IntKind.i64.wrap (i + 1) = i + 1 := wrap_in (by omega) (by omega)
 have g1 := getvV h
 have g2 := getvV h'
 have d1 : a.kids.drop i = a.kids[i]! :: a.kids.drop (i + 1) := by rw [<- List.getElem_cons_drop h, <- getElem!_pos a.kids i h]
 have d2 : b.kids.drop i = b.kids[i]! :: b.kids.drop (i + 1) := by rw [<- List.getElem_cons_drop h', <- getElem!_pos b.kids i h']
 rw [d1, d2, cmpVs] at he
 have hc := hrec _ (mem_bangI h) _ (mem_bangI h')
 rw [vV_eq a.kids[i]!, vV_eq b.kids[i]!] at hc
 simp only [go_sem, h', h2]
 refine DrawK.walk 10 mixed (by kernel_rfl) ?_
 simp only [go_sem, h', h2, g1, g2]
 refine CallU.free hc (by simp only [go_sem]) (by simp only [go_sem]) ?_
 rintro r bx rfl
 by_cases h4 : cmpV a.kids[i]! b.kids[i]! = 0
 ·have h5 : (cmpV a.kids[i]! b.kids[i]! != 0) = false := by rw [h4]; rfl
  rw [if_neg (fun h' => h' h4)] at he
  simp only [go_sem, h5, hw]
  refine roundK.intro (i + 1) ⟨by omega, he⟩ (by omega) ?_
  simp only [go_sem]
 ·have h5 : (cmpV a.kids[i]! b.kids[i]! != 0) = true := bne_iff_ne.2 h4
  rw [if_pos h4] at he
  rw [<- he] at hcmp
  simp only [go_sem, h5, hcmp]
inductive TD where
 | mk (kind size : Int) (ranks : List Int) (parts : List TD)
 deriving Inhabited
def TD.kind : TD -> Int
 | .mk k _ _ _ => k
def TD.size : TD -> Int
 | .mk _ s _ _ => s
def TD.ranks : TD -> List Int
 | .mk _ _ r _ => r
def TD.parts : TD -> List TD
 | .mk _ _ _ p => p
mutual
def vT : TD -> AV
 | .mk k s r p => .ag [vi k, vi s, vs 0 r, .sl 0 4 (vTs p)]
def vTs : List TD -> List AV
 | [] => []
 | x :: l => vT x :: vTs l
end
theorem vTs_map : ∀ l : List TD, vTs l = l.map vT
 | [] => rfl
 | x :: l => by rw [vTs, vTs_map l]; rfl
theorem vT_eq (a : TD) : vT a = .ag [vi a.kind, vi a.size, vs 0 a.ranks, .sl 0 4 (a.parts.map vT)] := by cases a; rw [vT, vTs_map]; rfl
theorem part_size {a x : TD} (h : x ∈ a.parts) : SizeOf.sizeOf x < SizeOf.sizeOf a := by
 cases a with
 | mk k s r p => have := List.sizeOf_lt_of_mem h; simp only [TD.parts] at *; rw [TD.mk.sizeOf_spec]; omega
theorem getvT {l : List TD} {i : Nat} (h : i < l.length) : (l.map vT)[i]? = some (.ag [.sc (.int .i64 l[i]!.kind), .sc (.int .i64 l[i]!.size), .sl 0 1 (l[i]!.ranks.map vi), .sl 0 4 (l[i]!.parts.map vT)]) := by
 rw [List.getElem?_map, List.getElem?_eq_getElem h, getElem!_pos l i h, Option.map_some, vT_eq]; rfl
inductive TD.Ok : TD -> Prop
 | mk (k s : Int) (r : List Int) (p : List TD) : r.length <= 1000000 -> p.length <= 1000000 -> (∀ x ∈ p, TD.Ok x) -> TD.Ok (.mk k s r p)
theorem TD.Ok.rlen {a : TD} (h : a.Ok) : a.ranks.length <= 1000000 := by cases h; assumption
theorem TD.Ok.plen {a : TD} (h : a.Ok) : a.parts.length <= 1000000 := by cases h; assumption
theorem TD.Ok.part {a : TD} (h : a.Ok) {x : TD} (hx : x ∈ a.parts) : x.Ok := by cases h with | mk k s r p _ _ h2 => exact h2 x hx
def badRank (r : Int) : Bool := decide (r < 0) || decide (6 <= r)
def rankedL (l : List Int) : Bool := decide (1 <= l.length) && decide (l.length <= 6) && !l.any badRank
theorem con_pranked1 (x : Int) : Con Tryz.prog 210 [vi x] [] fun r _ => r = .sc (.bool (badRank x)) := by
 refine Con.intro Tryz.func210 rfl Tryz.ntmps210 Tryz.results210 (by kernel_rfl) (by simp) 0 (by simp) ?_
 unfold badRank
 by_cases h : x < 0
 ·simp only [go_sem, h, decide_true, Bool.true_or]
 ·simp only [go_sem, h, decide_false, Bool.false_or]
theorem con_pranked (l : List Int) (hl : l.length <= 1000000) : Con Tryz.prog 203 [vs 0 l] [] fun r _ => r = vb (rankedL l) := by
 refine Con.intro Tryz.func203 rfl Tryz.ntmps203 Tryz.results203 (by kernel_rfl) (by simp) 0 (by simp) ?_
 unfold rankedL
 by_cases h1 : 1 <= l.length
 ·have h1' : (1 : Int) <= (l.length : Int) := by omega
  by_cases h2 : l.length <= 6
  ·have h2' : (l.length : Int) <= 6 := by omega
   simp only [go_sem, List.length_map, h1', h2']
   refine CallU.free (con_containsInt l 210 [] badRank rfl (fun x _ => con_pranked1 x) (by omega)) (by simp only [go_sem]) (by simp only [go_sem]) ?_
   rintro r bx rfl
   simp only [go_sem, h1, h2, decide_true, Bool.true_and]
  ·have h2' : ¬ (l.length : Int) <= 6 := by omega
   simp only [go_sem, List.length_map, h1', h2', h1, h2, decide_true, decide_false, Bool.true_and, Bool.false_and]
 ·have h1' : ¬ (1 : Int) <= (l.length : Int) := by omega
  simp only [go_sem, List.length_map, h1', h1, decide_false, Bool.false_and]
theorem con_pvalid0 (l : List Int) (hl : l.length <= 1000000) : Con Tryz.prog 193 [vs 0 l, .nil] [] fun r _ => r = vb (rankedL l) := by
 refine Con.intro Tryz.func193 rfl Tryz.ntmps193 Tryz.results193 (by kernel_rfl) (by simp) 0 (by simp) ?_
 simp only [go_sem]
 refine CallU.free (con_pranked l hl) (by simp only [go_sem]) (by simp only [go_sem]) ?_
 rintro r bx rfl
 cases rankedL l
 ·simp only [go_sem]
 ·simp only [go_sem]
  refine CallU.look ((con_containsInt [] 204 [.fp [vs 0 l] 0] (fun _ => true) (by simp only [go_sem]) (fun x hx => by cases hx) (by simp)).leA (args' := [.nil, .fn 204 [.fp [vs 0 l] 0]]) ⟨leV_nil 0 1, leV_refl _, trivial⟩) (by simp only [go_sem]) (by simp only [go_sem]) ?_
  rintro r bx rfl
  simp only [go_sem, List.any_nil]
def TellsT (f : FuncId) (caps : List AV) (l : List TD) (p : TD -> Bool) : Prop := ∀ x ∈ l, Con Tryz.prog f ([vT x] ++ caps) [] fun r _ => r = .sc (.bool (p x))
theorem con_indexT (l : List TD) (f : FuncId) (caps : List AV) (p : TD -> Bool) (hc : mapTops (viewV []) caps = caps) (hf : TellsT f caps l p) (hl : l.length <= 9223372036854775806) : Con Tryz.prog 205 [.sl 0 4 (l.map vT), .fn f caps] [] fun r _ => r = vi (findI p l) := by
 refine Con.intro Tryz.func205 rfl Tryz.ntmps205 Tryz.results205 (by kernel_rfl) (by simp) 0 (by simp) ?_
 simp only [go_sem]
 refine LoopK.intro (fun i : Nat => ⟨19, [(0, .sl 0 4 (l.map vT)), (1, .fn f caps), (7, vi l.length), (8, vi i)], []⟩)
  (fun i => l.length - i) (fun i => i <= l.length /\ ∀ j, j < i -> p l[j]! = false) 0 ⟨by omega, fun j hj => by omega⟩ ?_ ?_
 ·simp only [go_sem]
  all_goals exact leV_refl _
 ·rintro i ⟨hi, hb⟩
  by_cases h : i < l.length
  ·have hg := getvT h
   have hw : IntKind.i64.wrap (i + 1) = i + 1 := wrap_in (by omega) (by omega)
   have hfi := hf l[i]! (mem_bangI h)
   rw [vT_eq] at hfi
   simp only [go_sem, h, hg]
   refine CallU.look hfi (by simp only [go_sem]) (by simp only [go_sem, hc]) ?_
   rintro r bx rfl
   cases hp : p l[i]!
   ·simp only [go_sem, hw]
    refine roundK.intro (i + 1) ⟨by omega, fun j hj => ?_⟩ (by omega) ?_
    ·by_cases hji : j = i
     ·subst hji; exact hp
     ·exact hb j (by omega)
    ·simp only [go_sem]
   ·simp only [go_sem]
    rw [findI_stop h hb hp]
  ·simp only [go_sem, h]
   rw [findI_none (fun j hj => hb j (by omega))]
theorem con_containsT (l : List TD) (f : FuncId) (caps : List AV) (p : TD -> Bool) (hc : mapTops (viewV []) caps = caps) (hf : TellsT f caps l p) (hl : l.length <= 9223372036854775806) : Con Tryz.prog 194 [.sl 0 4 (l.map vT), .fn f caps] [] fun r _ => r = .sc (.bool (l.any p)) := by
 refine Con.intro Tryz.func194 rfl Tryz.ntmps194 Tryz.results194 (by kernel_rfl) (by simp) 0 (by simp) ?_
 simp only [go_sem]
 refine CallU.look (con_indexT l f caps p hc hf hl) (by simp only [go_sem]) (by simp only [go_sem]) ?_
 rintro r bx rfl
 simp only [go_sem, findI_ge]
def rightT : Nat -> TD -> Bool
 | 0, _ => false
 | d + 1, t =>
  if 0 < t.ranks.length /\ t.kind ≠ 7 then false
  else if t.kind = 1 then t.parts.length == 0 && t.size == 0
  else if t.kind = 2 \/ t.kind = 6 then t.parts.length == 0 && decide (1 <= t.size) && decide (t.size <= 16)
  else if t.kind = 7 then t.parts.length == 0 && t.size == t.ranks.length && rankedL t.ranks
  else if t.kind = 3 then t.size == 0 && !(t.parts.length == 0) && decide (t.parts.length <= 8) && !t.parts.any fun p => !rightT d p
  else if t.kind = 4 \/ t.kind = 5 then t.size == 0 && t.parts.length == 1 && !t.parts.any fun p => !rightT d p
  else false
theorem con_oright : ∀ (d : Nat) (t : TD), d <= 100 -> t.Ok -> Con Tryz.prog 176 [vT t, vi d] [] fun r _ => r = vb (rightT d t) := by
 intro d
 induction d with
 | zero =>
  intro t _ ht
  rw [vT_eq]
  refine Con.intro Tryz.func176 rfl Tryz.ntmps176 Tryz.results176 (by kernel_rfl) (by simp) 2 (by simp) ?_
  have h0 : (((0 : Nat) : Int) == 0) = true := rfl
  simp only [go_sem, rightT]
 | succ d ih =>
  intro t hd ht
  have hrl := ht.rlen
  have hpl := ht.plen
  have hcall : ∀ x ∈ t.parts, Con Tryz.prog 195 [vT x, .fp [vi ((d + 1 : Nat) : Int)] 0] [] fun r _ => r = .sc (.bool (!rightT d x)) := fun x hx => by
   rw [vT_eq]
   refine Con.intro Tryz.func195 rfl Tryz.ntmps195 Tryz.results195 (by kernel_rfl) (by simp) 1 (by simp) ?_
   have hw : IntKind.i64.wrap ((d : Int) + 1 - 1) = (d : Int) := by rw [wrap_in (by omega) (by omega)]; omega
   simp only [go_sem, hw]
   refine CallU.free (ih x (by omega) (ht.part hx)) (by simp only [go_sem]) (by simp only [go_sem, vT_eq]) ?_
   rintro r bx rfl
   simp only [go_sem]
  have hcon := con_containsT t.parts 195 [.fp [vi ((d + 1 : Nat) : Int)] 0] (fun x => !rightT d x) (by simp only [go_sem]) hcall (by omega)
  rw [vT_eq]
  refine Con.intro Tryz.func176 rfl Tryz.ntmps176 Tryz.results176 (by kernel_rfl) (by simp) 2 (by simp) ?_
  have h0 : (((d + 1 : Nat) : Int) == 0) = false := beq_eq_false_iff_ne.2 (by omega)
  have hzp : ((t.parts.length : Int) == 0) = (t.parts.length == 0) := zero_len _
  have h0 : ((d : Int) + 1 == 0) = false := beq_eq_false_iff_ne.2 (by omega)
  by_cases hbad : 0 < t.ranks.length /\ t.kind ≠ 7
  ·have e : rightT (d + 1) t = false := by unfold rightT; rw [if_pos hbad]
   have h1 := hbad.1
   have h2 : (t.kind != 7) = true := bne_iff_ne.2 hbad.2
   simp only [go_sem, h0, h1, h2, List.length_map, e]
  have e : rightT (d + 1) t = if t.kind = 1 then t.parts.length == 0 && t.size == 0
    else if t.kind = 2 \/ t.kind = 6 then t.parts.length == 0 && decide (1 <= t.size) && decide (t.size <= 16)
    else if t.kind = 7 then t.parts.length == 0 && t.size == t.ranks.length && rankedL t.ranks
    else if t.kind = 3 then t.size == 0 && !(t.parts.length == 0) && decide (t.parts.length <= 8) && !t.parts.any fun p => !rightT d p
    else if t.kind = 4 \/ t.kind = 5 then t.size == 0 && t.parts.length == 1 && !t.parts.any fun p => !rightT d p
    else false := by rw [rightT, if_neg hbad]
  rw [e]
  have hgo : (0 < t.ranks.length) = False \/ ((0 < t.ranks.length) = True /\ t.kind = 7) := by
   by_cases h : 0 < t.ranks.length
   ·exact .inr ⟨eq_true h, Classical.byContradiction fun hk => hbad ⟨h, hk⟩⟩
   ·exact .inl (eq_false h)
  by_cases k7 : t.kind = 7
  ·have hp := con_pvalid0 t.ranks hrl
   have hne : (t.kind != 7) = false := by rw [k7]; rfl
   have b1 : (t.kind == 1) = false := by rw [k7]; rfl
   have b2 : (t.kind == 2) = false := by rw [k7]; rfl
   have b6 : (t.kind == 6) = false := by rw [k7]; rfl
   have b7 : (t.kind == 7) = true := by rw [k7]; rfl
   rw [if_neg (by omega), if_neg (by omega), if_pos k7]
   rcases hgo with hgo | ⟨hgo, _⟩
   all_goals
    cases hz : t.parts.length == 0
    ·simp only [go_sem, h0, hgo, hne, b1, b2, b6, b7, hzp, hz, List.length_map, Bool.false_and]
    ·cases hsz : t.size == (t.ranks.length : Int)
     ·simp only [go_sem, h0, hgo, hne, b1, b2, b6, b7, hzp, hz, hsz, List.length_map, Bool.false_and, Bool.and_false]
     ·simp only [go_sem, h0, hgo, hne, b1, b2, b6, b7, hzp, hz, hsz, List.length_map]
      refine CallU.free hp (by simp only [go_sem]) (by simp only [go_sem]) ?_
      rintro r bx rfl
      simp only [go_sem, Bool.true_and]
  have hgo : (0 < t.ranks.length) = False := hgo.resolve_right fun h => k7 h.2
  by_cases k1 : t.kind = 1
  ·have b1 : (t.kind == 1) = true := beq_iff_eq.2 k1
   rw [if_pos k1]
   cases hz : t.parts.length == 0
   ·simp only [go_sem, h0, hgo, b1, hzp, hz, List.length_map, Bool.false_and]
   ·simp only [go_sem, h0, hgo, b1, hzp, hz, List.length_map, Bool.true_and]
  have b1 : (t.kind == 1) = false := beq_eq_false_iff_ne.2 k1
  rw [if_neg k1]
  by_cases k26 : t.kind = 2 \/ t.kind = 6
  ·rw [if_pos k26]
   have b26 : (t.kind == 2) = true \/ ((t.kind == 2) = false /\ (t.kind == 6) = true) := by
    rcases k26 with h | h
    ·exact .inl (beq_iff_eq.2 h)
    ·exact .inr ⟨beq_eq_false_iff_ne.2 (by omega), beq_iff_eq.2 h⟩
   rcases b26 with b2 | ⟨b2, b6⟩
   case' inl =>
    cases hz : t.parts.length == 0
    ·simp only [go_sem, h0, hgo, b1, b2, hzp, hz, List.length_map, Bool.false_and]
    ·by_cases hs1 : 1 <= t.size
     ·simp only [go_sem, h0, hgo, b1, b2, hzp, hz, List.length_map, Bool.true_and, hs1, decide_true]
     ·simp only [go_sem, h0, hgo, b1, b2, hzp, hz, List.length_map, Bool.true_and, hs1, decide_false, Bool.false_and]
   case' inr =>
    cases hz : t.parts.length == 0
    ·simp only [go_sem, h0, hgo, b1, b2, b6, hzp, hz, List.length_map, Bool.false_and]
    ·by_cases hs1 : 1 <= t.size
     ·simp only [go_sem, h0, hgo, b1, b2, b6, hzp, hz, List.length_map, Bool.true_and, hs1, decide_true]
     ·simp only [go_sem, h0, hgo, b1, b2, b6, hzp, hz, List.length_map, Bool.true_and, hs1, decide_false, Bool.false_and]
  have b2 : (t.kind == 2) = false := beq_eq_false_iff_ne.2 (by omega)
  have b6 : (t.kind == 6) = false := beq_eq_false_iff_ne.2 (by omega)
  have b7 : (t.kind == 7) = false := beq_eq_false_iff_ne.2 k7
  rw [if_neg k26, if_neg k7]
  by_cases k3 : t.kind = 3
  ·have b3 : (t.kind == 3) = true := beq_iff_eq.2 k3
   rw [if_pos k3]
   cases hsz : t.size == 0
   ·have hsz' : (t.size != 0) = true := by unfold bne; rw [hsz]; rfl
    simp only [go_sem, h0, hgo, b1, b2, b6, b7, b3, hsz', List.length_map, Bool.false_and]
   ·have hsz' : (t.size != 0) = false := by unfold bne; rw [hsz]; rfl
    cases hz : t.parts.length == 0
    ·by_cases h8 : t.parts.length <= 8
     ·have h8' : ¬ (8 : Int) < (t.parts.length : Int) := by omega
      simp only [go_sem, h0, hgo, b1, b2, b6, b7, b3, hzp, hz, hsz', h8', List.length_map]
      refine CallU.look hcon (by simp only [go_sem]) (by simp only [go_sem]) ?_
      rintro r bx rfl
      simp only [go_sem, h8, decide_true, Bool.true_and]
     ·have h8' : (8 : Int) < (t.parts.length : Int) := by omega
      simp only [go_sem, h0, hgo, b1, b2, b6, b7, b3, hzp, hz, hsz', h8', h8, List.length_map, decide_false, Bool.and_false, Bool.false_and]
    ·simp only [go_sem, h0, hgo, b1, b2, b6, b7, b3, hzp, hz, hsz', List.length_map, Bool.not_true, Bool.and_false, Bool.false_and]
  have b3 : (t.kind == 3) = false := beq_eq_false_iff_ne.2 k3
  rw [if_neg k3]
  by_cases k45 : t.kind = 4 \/ t.kind = 5
  ·rw [if_pos k45]
   have h1p : ((t.parts.length : Int) != 1) = !(t.parts.length == 1) := by
    unfold bne
    congr 1
    rw [Bool.eq_iff_iff]; simp; omega
   have b45 : (t.kind == 4) = true \/ ((t.kind == 4) = false /\ (t.kind == 5) = true) := by
    rcases k45 with h | h
    ·exact .inl (beq_iff_eq.2 h)
    ·exact .inr ⟨beq_eq_false_iff_ne.2 (by omega), beq_iff_eq.2 h⟩
   cases hsz : t.size == 0
   ·have hsz' : (t.size != 0) = true := by unfold bne; rw [hsz]; rfl
    rcases b45 with b4 | ⟨b4, b5⟩
    ·simp only [go_sem, h0, hgo, b1, b2, b6, b7, b3, b4, hsz', List.length_map, Bool.false_and]
    ·simp only [go_sem, h0, hgo, b1, b2, b6, b7, b3, b4, b5, hsz', List.length_map, Bool.false_and]
   ·have hsz' : (t.size != 0) = false := by unfold bne; rw [hsz]; rfl
    cases hz : t.parts.length == 1
    ·rcases b45 with b4 | ⟨b4, b5⟩
     ·simp only [go_sem, h0, hgo, b1, b2, b6, b7, b3, b4, hsz', h1p, hz, List.length_map, Bool.not_false, Bool.and_false, Bool.false_and]
     ·simp only [go_sem, h0, hgo, b1, b2, b6, b7, b3, b4, b5, hsz', h1p, hz, List.length_map, Bool.not_false, Bool.and_false, Bool.false_and]
    ·rcases b45 with b4 | ⟨b4, b5⟩
     case' inl =>
      simp only [go_sem, h0, hgo, b1, b2, b6, b7, b3, b4, hzp, hsz', h1p, hz, List.length_map, Bool.not_true]
     case' inr =>
      simp only [go_sem, h0, hgo, b1, b2, b6, b7, b3, b4, b5, hzp, hsz', h1p, hz, List.length_map, Bool.not_true]
     all_goals
      refine CallU.look hcon (by simp only [go_sem]) (by simp only [go_sem]) ?_
      rintro r bx rfl
      simp only [go_sem, Bool.true_and]
  have b4 : (t.kind == 4) = false := beq_eq_false_iff_ne.2 (by omega)
  have b5 : (t.kind == 5) = false := beq_eq_false_iff_ne.2 (by omega)
  rw [if_neg k45]
  simp only [go_sem, h0, hgo, b1, b2, b6, b7, b3, b4, b5, List.length_map]
def checkT (t : TD) : Int := if rightT 8 t then 0 else 6
theorem con_oCheck (t : TD) (ht : t.Ok) : Con Tryz.prog 142 [vT t] [] fun r _ => r = vi (checkT t) := by
 rw [vT_eq]
 refine Con.intro Tryz.func142 rfl Tryz.ntmps142 Tryz.results142 (by kernel_rfl) (by simp) 1 (by simp) ?_
 have hr := con_oright 8 t (by omega) ht
 unfold checkT
 simp only [go_sem]
 refine CallU.free hr (by simp only [go_sem]) (by simp only [go_sem, vT_eq]) ?_
 rintro r bx rfl
 cases rightT 8 t
 ·simp only [go_sem, Bool.false_eq_true, if_false]
 ·simp only [go_sem, if_true]
def TellsV (f : FuncId) (caps : List AV) (l : List CV) (p : CV -> Bool) : Prop := ∀ x ∈ l, Con Tryz.prog f ([vV x] ++ caps) [] fun r _ => r = .sc (.bool (p x))
theorem con_indexVal (l : List CV) (f : FuncId) (caps : List AV) (p : CV -> Bool) (hc : mapTops (viewV []) caps = caps) (hf : TellsV f caps l p) (hl : l.length <= 9223372036854775807) : Con Tryz.prog 144 [.sl 0 2 (l.map vV), .fn f caps] [] fun r _ => r = vi (findI p l) := by
 refine Con.intro Tryz.func144 rfl Tryz.ntmps144 Tryz.results144 (by kernel_rfl) (by simp) 0 (by simp) ?_
 simp only [go_sem]
 refine LoopK.intro (fun i : Nat => ⟨19, [(0, .sl 0 2 (l.map vV)), (1, .fn f caps), (7, vi l.length), (8, vi i)], []⟩)
  (fun i => l.length - i) (fun i => i <= l.length /\ ∀ j, j < i -> p l[j]! = false) 0 ⟨by omega, fun j hj => by omega⟩ ?_ ?_
 ·simp only [go_sem]
  all_goals exact leV_refl _
 ·rintro i ⟨hi, hb⟩
  by_cases h : i < l.length
  ·have hg := getvV h
   have hw : IntKind.i64.wrap (i + 1) = i + 1 := wrap_in (by omega) (by omega)
   have hfi := hf l[i]! (mem_bangI h)
   rw [vV_eq] at hfi
   simp only [go_sem, h, hg]
   refine CallU.look hfi (by simp only [go_sem]) (by simp only [go_sem, hc]) ?_
   rintro r bx rfl
   cases hp : p l[i]!
   ·simp only [go_sem, hw]
    refine roundK.intro (i + 1) ⟨by omega, fun j hj => ?_⟩ (by omega) ?_
    ·by_cases hji : j = i
     ·subst hji; exact hp
     ·exact hb j (by omega)
    ·simp only [go_sem]
   ·simp only [go_sem]
    rw [findI_stop h hb hp]
  ·simp only [go_sem, h]
   rw [findI_none (fun j hj => hb j (by omega))]
theorem con_containsVal (l : List CV) (f : FuncId) (caps : List AV) (p : CV -> Bool) (hc : mapTops (viewV []) caps = caps) (hf : TellsV f caps l p) (hl : l.length <= 9223372036854775807) : Con Tryz.prog 89 [.sl 0 2 (l.map vV), .fn f caps] [] fun r _ => r = .sc (.bool (l.any p)) := by
 refine Con.intro Tryz.func89 rfl Tryz.ntmps89 Tryz.results89 (by kernel_rfl) (by simp) 0 (by simp) ?_
 simp only [go_sem]
 refine CallU.look (con_indexVal l f caps p hc hf hl) (by simp only [go_sem]) (by simp only [go_sem]) ?_
 rintro r bx rfl
 simp only [go_sem, findI_ge]
def labelB (size : Int) (v : CV) : Bool := decide (0 <= v.n) && decide (v.n < size) && v.kids.length == 0
mutual
def taggedV : CV -> Int -> Bool
 | .mk n kids, size => decide (0 <= n) && decide (n < size) && taggedVs kids size
def taggedVs : List CV -> Int -> Bool
 | [], _ => true
 | x :: l, size => taggedV x size && taggedVs l size
end
theorem taggedVs_any : ∀ (l : List CV) (size : Int), taggedVs l size = !l.any fun x => !taggedV x size
 | [], _ => by simp [taggedVs]
 | x :: l, size => by rw [taggedVs, taggedVs_any l, List.any_cons]; cases taggedV x size <;> simp
theorem tagged_eq (v : CV) (size : Int) : taggedV v size = (decide (0 <= v.n) && decide (v.n < size) && !v.kids.any fun x => !taggedV x size) := by
 cases v; rw [taggedV, taggedVs_any]; rfl
theorem con_tagged : ∀ (s : Nat) (v : CV) (size : Int), SizeOf.sizeOf v <= s -> v.Ok -> Con Tryz.prog 180 [vV v, vi size] [] fun r _ => r = vb (taggedV v size) := by
 intro s
 induction s with
 | zero => intro v _ hs; cases v; rw [CV.mk.sizeOf_spec] at hs; omega
 | succ s ih =>
  intro v size hs hv
  have hlen := hv.len
  have hcall : ∀ x ∈ v.kids, Con Tryz.prog 197 [vV x, .fp [vi size] 0] [] fun r _ => r = .sc (.bool (!taggedV x size)) := fun x hx => by
   rw [vV_eq]
   refine Con.intro Tryz.func197 rfl Tryz.ntmps197 Tryz.results197 (by kernel_rfl) (by simp) 1 (by simp) ?_
   simp only [go_sem]
   refine CallU.free (ih x size (by have := kid_size hx; omega) (hv.kid hx)) (by simp only [go_sem]) (by simp only [go_sem, vV_eq]) ?_
   rintro r bx rfl
   simp only [go_sem]
  have hcon := con_containsVal v.kids 197 [.fp [vi size] 0] (fun x => !taggedV x size) (by simp only [go_sem]) hcall hlen
  rw [vV_eq, tagged_eq]
  refine Con.intro Tryz.func180 rfl Tryz.ntmps180 Tryz.results180 (by kernel_rfl) (by simp) 2 (by simp) ?_
  by_cases h1 : 0 <= v.n
  ·by_cases h2 : v.n < size
   ·simp only [go_sem, h1, h2]
    refine CallU.look hcon (by simp only [go_sem]) (by simp only [go_sem]) ?_
    rintro r bx rfl
    simp only [go_sem, decide_true, Bool.true_and]
   ·simp only [go_sem, h1, h2, decide_true, decide_false, Bool.true_and, Bool.false_and]
  ·simp only [go_sem, h1, decide_false, Bool.false_and]
def sortedB (l : List CV) : Bool := (List.range l.length).all fun i => i == 0 || !decide (cmpV l[i]! l[i - 1]! < 0)
theorem sorted_bad {l : List CV} {i : Nat} (h : i < l.length) (h0 : i ≠ 0) (hb : cmpV l[i]! l[i - 1]! < 0) : sortedB l = false := by
 unfold sortedB
 rw [List.all_eq_false]
 refine ⟨i, List.mem_range.2 h, ?_⟩
 rw [decide_eq_true hb, beq_eq_false_iff_ne.2 h0]; simp
theorem sorted_good {l : List CV} (h : ∀ i, i < l.length -> i ≠ 0 -> ¬ cmpV l[i]! l[i - 1]! < 0) : sortedB l = true := by
 unfold sortedB
 rw [List.all_eq_true]
 intro i hi
 have hi := List.mem_range.1 hi
 by_cases h0 : i = 0
 ·rw [h0]; simp
 ·rw [decide_eq_false (h i hi h0)]; simp
def sortedTree : Tr := .front 0 (.front 1 (.front 2 (.front 3 (.front 5 (.front 6 (.alt (.one 4 (.one 7 (.front 8 (.one 9 (.one 10 (.one 11 .done)))))) (.one 7 (.front 8 (.alt (.one 4 (.one 9 (.one 10 (.one 11 .done)))) (.one 9 (.one 4 (.one 10 (.one 11 .done)))))))))))))
theorem con_isSortedV (l : List CV) (hl : l.length <= 9223372036854775807) (hk : ∀ x ∈ l, x.Ok) : Con Tryz.prog 179 [.sl 0 2 (l.map vV), .fn 82 []] [] fun r _ => r = vb (sortedB l) := by
 refine Con.intro Tryz.func179 rfl Tryz.ntmps179 Tryz.results179 (by kernel_rfl) (by simp) 0 (by simp) ?_
 have hw0 : IntKind.i64.wrap ((l.length : Int) - 1) = (l.length : Int) - 1 := wrap_in (by omega) (by omega)
 simp only [go_sem, List.length_map, hw0]
 refine LoopK.intro (fun k : Nat => ⟨25, [(0, .sl 0 2 (l.map vV)), (1, .fn 82 []), (5, vi ((l.length : Int) - 1 - k))], []⟩)
  (fun k => l.length - k) (fun k => k <= l.length /\ ∀ i, i < l.length -> l.length - 1 - k < i -> i ≠ 0 -> ¬ cmpV l[i]! l[i - 1]! < 0) 0 ⟨by omega, fun i h1 h2 => by omega⟩ ?_ ?_
 ·simp only [go_sem]
  all_goals exact leV_int (by omega)
 rintro k ⟨hk1, hb⟩
 by_cases h : (0 : Int) < (l.length : Int) - 1 - k
 ·obtain ⟨i, ei, hi0, hil⟩ : ∃ i : Nat, (l.length : Int) - 1 - k = i /\ 1 <= i /\ i < l.length := ⟨l.length - 1 - k, by omega, by omega, by omega⟩
  have h2 : i - 1 < l.length := by omega
  have g1 := getvV hil
  have g2 := getvV h2
  have hc := con_compare _ l[i]! l[i - 1]! (Nat.le_refl _) (hk _ (mem_bangI hil)) (hk _ (mem_bangI h2))
  rw [vV_eq, vV_eq] at hc
  have hw : IntKind.i64.wrap ((i : Int) - 1) = ((i - 1 : Nat) : Int) := by rw [wrap_in (by omega) (by omega)]; omega
  have hi0' : (0 : Int) < (i : Int) := by omega
  rw [ei]
  simp only [go_sem, hi0']
  refine DrawK.meet ⟨25, [(0, .sl 0 2 (l.map vV)), (1, .fn 82 []), (5, vi i), (24, vb (decide (cmpV l[i]! l[i - 1]! < 0)))], []⟩ ?_ ?_
  ·refine DrawK.tree sortedTree mixed (by kernel_rfl) ?_
   unfold sortedTree
   repeat' (first | with_reducible apply andK_mk | (refine CallU.free hc (by simp only [go_sem]) (by simp only [go_sem]) ?_; rintro x bx rfl) | simp only [go_sem, hil, g1, hw, h2, g2])
  ·by_cases hneg : cmpV l[i]! l[i - 1]! < 0
   ·simp only [go_sem, hneg, decide_true, sorted_bad hil (by omega) hneg]
   ·have hw2 : IntKind.i64.wrap ((i : Int) - 1) = (l.length : Int) - 1 - ((k + 1 : Nat) : Int) := by rw [wrap_in (by omega) (by omega)]; omega
    simp only [go_sem, hneg, decide_false, hw2]
    refine roundK.intro (k + 1) ⟨by omega, fun j h1 h2 h3 => ?_⟩ (by omega) ?_
    ·by_cases hji : j = i
     ·subst hji; exact hneg
     ·exact hb j h1 (by omega) h3
    ·simp only [go_sem]
 ·have e : sortedB l = true := sorted_good fun i h1 h2 => hb i h1 (by omega) h2
  simp only [go_sem, h, e]
end Go.AM
