/-
  Walks: the reference of models, for all kinds: lists of a rule.
  Walks: the reference of models, for all kinds: one rule (printed by gen_rright.py).
  Walks: the reference of models: one rule, kind 1 (printed by gen_rright.py).
  Walks: the reference of models: one rule, kind 2 (printed by gen_rright.py).
  Walks: the reference of models: one rule, kind 3 (printed by gen_rright.py).
  Walks: the reference of models: one rule, kind 4 (printed by gen_rright.py).
  Walks: the reference of models: one rule, kind 5 (printed by gen_rright.py).
  Walks: the reference of models: one rule, kind 6 (printed by gen_rright.py).
  Walks: the reference of models, for all kinds: one rule is right where the program says so.
-/
import Derived.Test.YtpmodjodfimejaaGreatg19
/-! ## GM -/
namespace Go.AM
open Go Go.Proofs Go.RowKit
set_option maxRecDepth 100000
set_option maxHeartbeats 8000000
def listB (l : List Int) (n lo hi : Int) : Bool := (l.all fun x => betweenB x lo hi) && ((l.length : Int) == n)
theorem con_rlistG (l : List Int) (n lo hi : Int) (h6 : l.length ≤ 9223372036854775806) : Con Tryz.prog 128 [vs 0 l, vi n, vi lo, vi hi] [] fun r _ => r = vb (listB l n lo hi) := by
 refine Con.intro Tryz.func128 rfl Tryz.ntmps128 Tryz.results128 (by kernel_rfl) (by simp) 0 (by simp) ?_
 unfold listB
 simp only [go_sem]
 refine LoopK.intro (fun i : Nat => ⟨28, [(0, vs 0 l), (1, vi n), (2, vi lo), (3, vi hi), (9, vi i)], []⟩) (fun i => l.length - i) (fun i => i ≤ l.length ∧ ∀ j, j < i → betweenB l[j]! lo hi = true) 0 ⟨by omega, fun j hj => by omega⟩ ?_ ?_
 ·simp only [go_sem]
 rintro i ⟨hi2, hj⟩
 by_cases h : i < l.length
 ·have hg := getv h
  have hw : IntKind.i64.wrap (i + 1) = i + 1 := wrap_in (by omega) (by omega)
  simp only [go_sem, h, hg]
  refine CallU.free (con_rbetween l[i]! lo hi) (by simp only [go_sem]) (by simp only [go_sem]) ?_
  rintro r bx rfl
  cases hc : betweenB l[i]! lo hi
  ·have hb := all_bad (p := fun x => betweenB x lo hi) h hc
   rw [hb, Bool.false_and]
   simp only [go_sem]
  simp only [go_sem, hw]
  refine roundK.intro (i + 1) ⟨by omega, fun j hj2 => ?_⟩ (by omega) ?_
  ·by_cases e : j = i
   ·rw [e]; exact hc
   ·exact hj j (by omega)
  simp only [go_sem]
 ·have hb := all_ok (l := l) (p := fun x => betweenB x lo hi) fun j hj2 => hj j (by omega)
  rw [hb, Bool.true_and]
  simp only [go_sem, h]
def fewB (l : List Int) (n hi : Int) : Bool := decide ((l.length : Int) ≤ n) && l.all fun x => betweenB x 0 hi
theorem listB_self (l : List Int) (lo hi : Int) : listB l l.length lo hi = l.all fun x => betweenB x lo hi := by
 unfold listB
 rw [beq_self_eq_true, Bool.and_true]
theorem con_rfew (l : List Int) (n hi : Int) (h6 : l.length ≤ 9223372036854775806) : Con Tryz.prog 129 [vs 0 l, vi n, vi hi] [] fun r _ => r = vb (fewB l n hi) := by
 refine Con.intro Tryz.func129 rfl Tryz.ntmps129 Tryz.results129 (by kernel_rfl) (by simp) 0 (by simp) ?_
 have hc := con_rlistG l l.length 0 hi h6
 rw [listB_self] at hc
 unfold fewB
 by_cases h : (l.length : Int) ≤ n
 ·simp only [go_sem, h]
  refine CallU.free hc (by simp only [go_sem]) (by simp only [go_sem]) ?_
  rintro r bx rfl
  simp only [go_sem]
 ·simp only [go_sem, h, decide_false, Bool.false_and]
theorem con_rzero (l : List Int) (h6 : l.length ≤ 9223372036854775806) : Con Tryz.prog 131 [vs 0 l] [] fun r _ => r = vb (l.all fun x => betweenB x 0 0) := by
 refine Con.intro Tryz.func131 rfl Tryz.ntmps131 Tryz.results131 (by kernel_rfl) (by simp) 0 (by simp) ?_
 have hc := con_rlistG l l.length 0 0 h6
 rw [listB_self] at hc
 simp only [go_sem]
 refine CallU.free hc (by simp only [go_sem]) (by simp only [go_sem]) ?_
 rintro r bx rfl
 simp only [go_sem]
theorem index_between (x : Int) (n : Nat) : betweenB x 0 ((n : Int) - 1) = indexB x n := by
 unfold betweenB indexB
 rw [Bool.eq_iff_iff]
 simp only [Bool.and_eq_true, decide_eq_true_eq]
 omega
theorem con_rtimed (m : MD) (r : RD) (hl : r.Len) (hp : m.places.length ≤ 1000000) (ha : 0 ≤ m.age ∧ m.age ≤ 1000000) : Con Tryz.prog 130 [vM m, vRule r] [] fun x _ => x = vb (agesB m.places.length m.age r) := by
 refine Con.intro Tryz.func130 rfl Tryz.ntmps130 Tryz.results130 (by kernel_rfl) (by simp) 0 (by simp) ?_
 have hlt := hl.takes
 have hlm := hl.makes
 have wp : IntKind.i64.wrap ((m.places.length : Int) - 1) = (m.places.length : Int) - 1 := wrap_in (by omega) (by omega)
 have wa : IntKind.i64.wrap (m.age + 1) = m.age + 1 := wrap_in (by omega) (by omega)
 have cf := con_rfew r.makes 3 ((m.places.length : Int) - 1) (by omega)
 have e0 : agesB m.places.length m.age r = (decide (r.takes.length ≤ 3) && fewB r.makes 3 ((m.places.length : Int) - 1) && (r.takes.all fun t => !badTake m.places.length m.age t) && ascI r.makes) := by
  unfold agesB fewB
  have e1 : (fun x => betweenB x 0 ((m.places.length : Int) - 1)) = fun x => indexB x m.places.length := funext fun x => index_between x _
  have e2 : decide ((r.makes.length : Int) ≤ 3) = decide (r.makes.length ≤ 3) := decide_eq_decide.2 (by omega)
  have e3 : (!r.takes.any (badTake m.places.length m.age)) = r.takes.all fun t => !badTake m.places.length m.age t := by rw [List.not_any_eq_all_not]
  rw [e1, e2, e3]
  cases decide (r.takes.length ≤ 3) <;> cases decide (r.makes.length ≤ 3) <;> cases ascI r.makes <;> cases (r.makes.all fun x => indexB x m.places.length) <;> cases (r.takes.all fun t => !badTake m.places.length m.age t) <;> rfl
 rw [e0]
 by_cases h1 : r.takes.length ≤ 3
 case neg =>
  have h1' : (3 : Int) < r.takes.length := by omega
  rw [decide_eq_false h1, Bool.false_and, Bool.false_and, Bool.false_and]
  simp only [go_sem, List.length_map, h1']
 have h1' : ¬ (3 : Int) < r.takes.length := by omega
 rw [decide_eq_true h1, Bool.true_and]
 simp only [go_sem, cM, vss, List.length_map, h1', wp]
 refine CallU.free cf (by simp only [go_sem]) (by simp only [go_sem]) ?_
 rintro x bx rfl
 cases hf : fewB r.makes 3 ((m.places.length : Int) - 1)
 ·rw [Bool.false_and, Bool.false_and]
  simp only [go_sem]
 rw [Bool.true_and]
 simp only [go_sem]
 refine LoopK.intro (fun i : Nat => ⟨81, [(2, .pb 0 0), (3, .pb 1 0), (4, vb false), (5, vi i)], [vi m.kind, .sl 0 1 (m.states.map vStr), .sl 0 1 (m.places.map vStr), .sl 0 1 (m.letters.map vStr), vs 0 m.ranks, vi m.levels, vi m.age, .sl 0 14 (m.rules.map vRule), vi m.start.n, .sl 0 2 (m.start.kids.map vV)] :: [vStr r.name, vi r.src, vi r.dst, vs 0 r.need, vs 0 r.give, vs 0 r.move, vi r.channel, vi r.act, vi r.letter, vs 0 r.path, vs 0 r.next, .sl 0 3 (r.takes.map vTake), vs 0 r.makes, vi r.second] :: Rk 3 i⟩)
  (fun i => r.takes.length - i) (fun i => i ≤ r.takes.length ∧ ∀ j, j < i → (!badTake m.places.length m.age r.takes[j]!) = true) 0 ⟨by omega, fun j hj => by omega⟩ ?_ ?_
 ·simp only [go_sem]
  exact leB_self _
 rintro i ⟨hi, hb⟩
 by_cases h : i < r.takes.length
 ·have hg := getTake h
  have hw : IntKind.i64.wrap (i + 1) = i + 1 := wrap_in (by omega) (by omega)
  have hB' := Rk_len 3 i
  have n0 := fun L : List (List AV) => app_at0 (L := L) hB'
  have s0' := fun (L : List (List AV)) z => app_set0 (L := L) (z := z) hB'
  have cb := con_rbetween r.takes[i]!.1 0 ((m.places.length : Int) - 1)
  have hnext : badTake m.places.length m.age r.takes[i]! = false → ∀ j, j < i + 1 → (!badTake m.places.length m.age r.takes[j]!) = true := fun hk j hj => by
   by_cases hji : j = i
   ·rw [hji, hk]; rfl
   ·exact hb j (by omega)
  have hstop : badTake m.places.length m.age r.takes[i]! = true → (r.takes.all fun t => !badTake m.places.length m.age t) = false := fun hk => all_bad (p := fun t => !badTake m.places.length m.age t) h (by rw [hk]; rfl)
  have hbt : badTake m.places.length m.age r.takes[i]! = (!indexB r.takes[i]!.1 m.places.length || decide (r.takes[i]!.2.1 < 0) || decide (r.takes[i]!.2.2 < r.takes[i]!.2.1) || decide (m.age + 1 < r.takes[i]!.2.2)) := rfl
  rw [index_between] at cb
  generalize r.takes[i]! = t at *
  simp only [go_sem, h, hg, hB', n0, s0', wp, List.length_map]
  refine CallU.free cb (by simp only [go_sem]) (by simp only [go_sem]) ?_
  rintro x bx rfl
  by_cases h2 : t.2.1 < 0
  ·have hk : badTake m.places.length m.age t = true := by rw [hbt, decide_eq_true h2]; simp
   rw [hstop hk, Bool.false_and]
   cases indexB t.1 m.places.length
   ·simp only [go_sem]
   ·simp only [go_sem, n0, h2]
  cases hi1 : indexB t.1 m.places.length
  ·have hk : badTake m.places.length m.age t = true := by rw [hbt, hi1]; rfl
   rw [hstop hk, Bool.false_and]
   simp only [go_sem]
  by_cases h3 : t.2.2 < t.2.1
  ·have hk : badTake m.places.length m.age t = true := by rw [hbt, decide_eq_true h3]; simp
   rw [hstop hk, Bool.false_and]
   simp only [go_sem, n0, h2, h3]
  by_cases h4 : m.age + 1 < t.2.2
  ·have hk : badTake m.places.length m.age t = true := by rw [hbt, decide_eq_true h4]; simp
   rw [hstop hk, Bool.false_and]
   simp only [go_sem, n0, h2, h3, wa, h4]
  have hk : badTake m.places.length m.age t = false := by rw [hbt, hi1, decide_eq_false h2, decide_eq_false h3, decide_eq_false h4]; rfl
  simp only [go_sem, n0, h2, h3, wa, h4, hw]
  refine roundK.intro (i + 1) ⟨by omega, hnext hk⟩ (by omega) ?_
  simp only [go_sem, Rk_succ]
  exact leB_RkA ⟨leC_any _ 3 rfl, trivial⟩
 have hall : (r.takes.all fun t => !badTake m.places.length m.age t) = true := all_ok (p := fun t => !badTake m.places.length m.age t) fun j hj => hb j (by omega)
 rw [hall, Bool.true_and]
 obtain rfl : i = r.takes.length := by omega
 simp only [go_sem, h]
 refine LoopK.intro (fun j : Nat => ⟨81, [(2, .pb 0 0), (3, .pb 1 0), (4, vb false), (7, vi j)], [vi m.kind, .sl 0 1 (m.states.map vStr), .sl 0 1 (m.places.map vStr), .sl 0 1 (m.letters.map vStr), vs 0 m.ranks, vi m.levels, vi m.age, .sl 0 14 (m.rules.map vRule), vi m.start.n, .sl 0 2 (m.start.kids.map vV)] :: [vStr r.name, vi r.src, vi r.dst, vs 0 r.need, vs 0 r.give, vs 0 r.move, vi r.channel, vi r.act, vi r.letter, vs 0 r.path, vs 0 r.next, .sl 0 3 (r.takes.map vTake), vs 0 r.makes, vi r.second] :: Rk 3 r.takes.length⟩)
  (fun j => r.makes.length - j) (fun j => 1 ≤ j ∧ ∀ i, i < r.makes.length → i < j → i ≠ 0 → ¬ r.makes[i]! < r.makes[i - 1]!) 1 ⟨by omega, fun i h1 h2 h3 => by omega⟩ ?_ ?_
 ·simp only [go_sem]
  all_goals exact ⟨leV_int rfl, leB_self _⟩
 rintro j ⟨hj, hs⟩
 by_cases hjl : j < r.makes.length
 ·have g1 := getv hjl
  have h2 : j - 1 < r.makes.length := by omega
  have g2 := getv h2
  have hw : IntKind.i64.wrap ((j : Int) - 1) = ((j - 1 : Nat) : Int) := by rw [wrap_in (by omega) (by omega)]; omega
  have hw2 : IntKind.i64.wrap (j + 1) = j + 1 := wrap_in (by omega) (by omega)
  simp only [go_sem, List.length_map, hjl]
  refine DrawK.walk 12 mixed (by kernel_rfl) ?_
  simp only [go_sem, hjl, g1, hw, h2, g2]
  by_cases hneg : r.makes[j]! < r.makes[j - 1]!
  ·have hbad := ascI_bad hjl (by omega) hneg
   rw [hbad]
   simp only [go_sem, hneg]
  ·simp only [go_sem, hneg, hw2]
   refine roundK.intro (j + 1) ⟨by omega, fun i h1 h3 h4 => ?_⟩ (by omega) ?_
   ·by_cases hji : i = j
    ·subst hji; exact hneg
    ·exact hs i h1 (by omega) h4
   ·simp only [go_sem]
    try exact leB_self _
 ·have e : ascI r.makes = true := ascI_good fun i h1 h2 => hs i h1 (by omega) h2
  rw [e]
  simp only [go_sem, List.length_map, hjl]
end Go.AM

/-! ## GN0 -/
namespace Go.AM
open Go Go.Proofs Go.RowKit
theorem two_false {a b : Nat} (h : (a == 0 && b == 0) = false) : 0 < a ∨ (¬ 0 < a ∧ 0 < b) := by
 rw [Bool.and_eq_false_iff, beq_eq_false_iff_ne, beq_eq_false_iff_ne] at h
 omega
theorem two_true {a b : Nat} (h : (a == 0 && b == 0) = true) : ¬ 0 < a ∧ ¬ 0 < b := by
 rw [Bool.and_eq_true, beq_iff_eq, beq_iff_eq] at h
 omega
def z2 (r : RD) : Bool := r.need.length == 0 && r.give.length == 0
theorem z2_false {r : RD} (h : z2 r = false) : 0 < r.need.length ∨ (¬ 0 < r.need.length ∧ 0 < r.give.length) := two_false h
theorem z2_true {r : RD} (h : z2 r = true) : ¬ 0 < r.need.length ∧ ¬ 0 < r.give.length := two_true h
def z3 (r : RD) : Bool := r.move.length == 0
theorem z3_false {r : RD} (h : z3 r = false) : 0 < r.move.length := by unfold z3 at h; rw [beq_eq_false_iff_ne] at h; omega
theorem z3_true {r : RD} (h : z3 r = true) : ¬ 0 < r.move.length := by unfold z3 at h; rw [beq_iff_eq] at h; omega
def z4 (r : RD) : Bool := r.channel == 0 && r.act == 0 && r.letter == 0
theorem z4_false {r : RD} (h : z4 r = false) : (r.channel != 0) = true ∨ ((r.channel != 0) = false ∧ (r.act != 0) = true) ∨ ((r.channel != 0) = false ∧ (r.act != 0) = false ∧ (r.letter != 0) = true) := by
 unfold z4 at h
 unfold bne
 cases h1 : r.channel == 0 <;> cases h2 : r.act == 0 <;> cases h3 : r.letter == 0 <;> simp [h1, h2, h3] at h ⊢
theorem z4_true {r : RD} (h : z4 r = true) : (r.channel != 0) = false ∧ (r.act != 0) = false ∧ (r.letter != 0) = false := by
 unfold z4 at h
 rw [Bool.and_eq_true, Bool.and_eq_true] at h
 unfold bne
 rw [h.1.1, h.1.2, h.2]
 exact ⟨rfl, rfl, rfl⟩
def z5 (r : RD) : Bool := r.path.length == 0 && r.next.length == 0
theorem z5_false {r : RD} (h : z5 r = false) : 0 < r.path.length ∨ (¬ 0 < r.path.length ∧ 0 < r.next.length) := two_false h
theorem z5_true {r : RD} (h : z5 r = true) : ¬ 0 < r.path.length ∧ ¬ 0 < r.next.length := two_true h
def z6 (r : RD) : Bool := r.takes.length == 0 && r.makes.length == 0
theorem z6_false {r : RD} (h : z6 r = false) : 0 < r.takes.length ∨ (¬ 0 < r.takes.length ∧ 0 < r.makes.length) := two_false h
theorem z6_true {r : RD} (h : z6 r = true) : ¬ 0 < r.takes.length ∧ ¬ 0 < r.makes.length := two_true h
def q4z (r : RD) : Bool := !(r.act == 0 && (r.channel != 0 || r.letter != 0))
theorem q4z_false {r : RD} (h : q4z r = false) : (r.act == 0) = true ∧ ((r.channel != 0) = true ∨ ((r.channel != 0) = false ∧ (r.letter != 0) = true)) := by
 unfold q4z at h
 cases h1 : r.channel != 0 <;> cases h2 : r.act == 0 <;> cases h3 : r.letter != 0 <;> simp [h1, h2, h3] at h ⊢
theorem q4z_true {r : RD} (h : q4z r = true) : (r.act == 0) = false ∨ ((r.act == 0) = true ∧ (r.channel != 0) = false ∧ (r.letter != 0) = false) := by
 unfold q4z at h
 cases h1 : r.channel != 0 <;> cases h2 : r.act == 0 <;> cases h3 : r.letter != 0 <;> simp [h1, h2, h3] at h ⊢
def q7 (m : MD) (r : RD) : Bool := if r.src = -1 then r.second == -1 && r.need.all fun x => betweenB x 0 0 else betweenB r.second (-1) ((m.states.length : Int) - 1)
end Go.AM

/-! ## GN1 -/
namespace Go.AM
open Go Go.Proofs Go.RowKit
set_option maxRecDepth 100000
set_option maxHeartbeats 8000000
theorem con_rright1 (m : MD) (r : RD) (h : RightM m) (hr : LenR r) (hk : m.kind = 1) : Con Tryz.prog 76 [vM m, vRule r] [] fun x _ => x = vb (betweenB r.src 0 ((m.states.length : Int) - 1) && (betweenB r.dst 0 ((m.states.length : Int) - 1) && (listB r.need m.places.length 0 16 && (listB r.give m.places.length 0 16 && (((r.move.length == 0) || listB r.move m.places.length (-1) ((m.places.length : Int) - 1)) && (z4 r && (z5 r && (z6 r && ((r.second == 0)))))))))) := by
 refine Con.intro Tryz.func76 rfl Tryz.ntmps76 Tryz.results76 (by kernel_rfl) (by simp) 0 (by simp) ?_
 have h1 := h.states; have h2 := h.places; have h3 := h.letters
 have ws : IntKind.i64.wrap ((m.states.length : Int) - 1) = ((m.states.length : Int) - 1) := wrap_in (by omega) (by omega)
 have wp : IntKind.i64.wrap ((m.places.length : Int) - 1) = ((m.places.length : Int) - 1) := wrap_in (by omega) (by omega)
 have wl : IntKind.i64.wrap ((m.letters.length : Int) - 1) = ((m.letters.length : Int) - 1) := wrap_in (by omega) (by omega)
 have hp := hr.path; have hn := hr.next
 have wn : IntKind.i64.wrap ((r.path.length : Int) + (r.next.length : Int)) = (r.path.length : Int) + (r.next.length : Int) := wrap_in (by omega) (by omega)
 simp only [go_sem, vM, cM, vss, hk, List.length_map, ws]
 have cc := con_rbetween r.src 0 ((m.states.length : Int) - 1)
 refine CallU.free cc (by simp only [go_sem]) (by simp only [go_sem]) ?_
 rintro x bx rfl
 cases betweenB r.src 0 ((m.states.length : Int) - 1)
 ·rw [Bool.false_and]; simp only [go_sem]
 rw [Bool.true_and]
 simp only [go_sem, List.length_map, ws]
 have cc := con_rbetween r.dst 0 ((m.states.length : Int) - 1)
 refine CallU.free cc (by simp only [go_sem]) (by simp only [go_sem]) ?_
 rintro x bx rfl
 cases betweenB r.dst 0 ((m.states.length : Int) - 1)
 ·rw [Bool.false_and]; simp only [go_sem]
 rw [Bool.true_and]
 simp only [go_sem, List.length_map]
 have cc := con_rlistG r.need m.places.length 0 16 hr.len.need
 refine CallU.free cc (by simp only [go_sem]) (by simp only [go_sem]) ?_
 rintro x bx rfl
 cases listB r.need m.places.length 0 16
 ·rw [Bool.false_and]; simp only [go_sem]
 rw [Bool.true_and]
 simp only [go_sem, List.length_map]
 have cc := con_rlistG r.give m.places.length 0 16 hr.len.give
 refine CallU.free cc (by simp only [go_sem]) (by simp only [go_sem]) ?_
 rintro x bx rfl
 cases listB r.give m.places.length 0 16
 ·rw [Bool.false_and]; simp only [go_sem]
 rw [Bool.true_and]
 simp only [go_sem, List.length_map]
 by_cases hm : 0 < r.move.length
 ·have e3 : (r.move.length == 0) = false := beq_eq_false_iff_ne.2 (by omega)
  rw [e3, Bool.false_or]
  simp only [go_sem, List.length_map, wp, hm]
  have cc := con_rlistG r.move m.places.length (-1) ((m.places.length : Int) - 1) hr.len.move
  refine CallU.free cc (by simp only [go_sem]) (by simp only [go_sem]) ?_
  rintro x bx rfl
  cases listB r.move m.places.length (-1) ((m.places.length : Int) - 1)
  ·rw [Bool.false_and]; simp only [go_sem]
  rw [Bool.true_and]
  simp only [go_sem]
  cases hzz4 : z4 r
  ·rw [Bool.false_and]
   rcases z4_false hzz4 with a1 | ⟨b1, a2⟩ | ⟨b1, b2, a3⟩
   ·simp only [go_sem, a1]
   ·simp only [go_sem, b1, a2]
   ·simp only [go_sem, b1, b2, a3]
  rw [Bool.true_and]
  obtain ⟨z41, z42, z43⟩ := z4_true hzz4
  simp only [go_sem, List.length_map, z41, z42, z43]
  cases hzz5 : z5 r
  ·rw [Bool.false_and]
   rcases z5_false hzz5 with a1 | ⟨b1, a2⟩
   ·simp only [go_sem, a1]
   ·simp only [go_sem, List.length_map, b1, a2]
  rw [Bool.true_and]
  obtain ⟨z51, z52⟩ := z5_true hzz5
  simp only [go_sem, List.length_map, z51, z52]
  cases hzz6 : z6 r
  ·rw [Bool.false_and]
   rcases z6_false hzz6 with a1 | ⟨b1, a2⟩
   ·simp only [go_sem, a1]
   ·simp only [go_sem, List.length_map, b1, a2]
  rw [Bool.true_and]
  obtain ⟨z61, z62⟩ := z6_true hzz6
  simp only [go_sem, List.length_map, z61, z62]
 ·have e3 : (r.move.length == 0) = true := beq_iff_eq.2 (by omega)
  rw [e3, Bool.true_or, Bool.true_and]
  simp only [go_sem, hm]
  cases hzz4 : z4 r
  ·rw [Bool.false_and]
   rcases z4_false hzz4 with a1 | ⟨b1, a2⟩ | ⟨b1, b2, a3⟩
   ·simp only [go_sem, a1]
   ·simp only [go_sem, b1, a2]
   ·simp only [go_sem, b1, b2, a3]
  rw [Bool.true_and]
  obtain ⟨z41, z42, z43⟩ := z4_true hzz4
  simp only [go_sem, List.length_map, z41, z42, z43]
  cases hzz5 : z5 r
  ·rw [Bool.false_and]
   rcases z5_false hzz5 with a1 | ⟨b1, a2⟩
   ·simp only [go_sem, a1]
   ·simp only [go_sem, List.length_map, b1, a2]
  rw [Bool.true_and]
  obtain ⟨z51, z52⟩ := z5_true hzz5
  simp only [go_sem, List.length_map, z51, z52]
  cases hzz6 : z6 r
  ·rw [Bool.false_and]
   rcases z6_false hzz6 with a1 | ⟨b1, a2⟩
   ·simp only [go_sem, a1]
   ·simp only [go_sem, List.length_map, b1, a2]
  rw [Bool.true_and]
  obtain ⟨z61, z62⟩ := z6_true hzz6
  simp only [go_sem, List.length_map, z61, z62]
end Go.AM

/-! ## GN2 -/
namespace Go.AM
open Go Go.Proofs Go.RowKit
set_option maxRecDepth 100000
set_option maxHeartbeats 8000000
theorem con_rright2 (m : MD) (r : RD) (h : RightM m) (hr : LenR r) (hk : m.kind = 2) : Con Tryz.prog 76 [vM m, vRule r] [] fun x _ => x = vb (betweenB r.src 0 ((m.states.length : Int) - 1) && (betweenB r.dst 0 ((m.states.length : Int) - 1) && (z2 r && (z3 r && (betweenB r.act 0 2 && (betweenB r.channel 0 ((m.places.length : Int) - 1) && (betweenB r.letter 0 ((m.letters.length : Int) - 1) && (q4z r && (z5 r && (z6 r && ((r.second == 0)))))))))))) := by
 refine Con.intro Tryz.func76 rfl Tryz.ntmps76 Tryz.results76 (by kernel_rfl) (by simp) 0 (by simp) ?_
 have h1 := h.states; have h2 := h.places; have h3 := h.letters
 have ws : IntKind.i64.wrap ((m.states.length : Int) - 1) = ((m.states.length : Int) - 1) := wrap_in (by omega) (by omega)
 have wp : IntKind.i64.wrap ((m.places.length : Int) - 1) = ((m.places.length : Int) - 1) := wrap_in (by omega) (by omega)
 have wl : IntKind.i64.wrap ((m.letters.length : Int) - 1) = ((m.letters.length : Int) - 1) := wrap_in (by omega) (by omega)
 have hp := hr.path; have hn := hr.next
 have wn : IntKind.i64.wrap ((r.path.length : Int) + (r.next.length : Int)) = (r.path.length : Int) + (r.next.length : Int) := wrap_in (by omega) (by omega)
 simp only [go_sem, vM, cM, vss, hk, List.length_map, ws]
 have cc := con_rbetween r.src 0 ((m.states.length : Int) - 1)
 refine CallU.free cc (by simp only [go_sem]) (by simp only [go_sem]) ?_
 rintro x bx rfl
 cases betweenB r.src 0 ((m.states.length : Int) - 1)
 ·rw [Bool.false_and]; simp only [go_sem]
 rw [Bool.true_and]
 simp only [go_sem, List.length_map, ws]
 have cc := con_rbetween r.dst 0 ((m.states.length : Int) - 1)
 refine CallU.free cc (by simp only [go_sem]) (by simp only [go_sem]) ?_
 rintro x bx rfl
 cases betweenB r.dst 0 ((m.states.length : Int) - 1)
 ·rw [Bool.false_and]; simp only [go_sem]
 rw [Bool.true_and]
 simp only [go_sem, List.length_map]
 cases hzz2 : z2 r
 ·rw [Bool.false_and]
  rcases z2_false hzz2 with a1 | ⟨b1, a2⟩
  ·simp only [go_sem, a1]
  ·simp only [go_sem, List.length_map, b1, a2]
 rw [Bool.true_and]
 obtain ⟨z21, z22⟩ := z2_true hzz2
 simp only [go_sem, List.length_map, z21, z22]
 cases hzz3 : z3 r
 ·rw [Bool.false_and]
  have a1 := z3_false hzz3
  simp only [go_sem, a1]
 rw [Bool.true_and]
 have z31 := z3_true hzz3
 simp only [go_sem, z31]
 have cc := con_rbetween r.act 0 2
 refine CallU.free cc (by simp only [go_sem]) (by simp only [go_sem]) ?_
 rintro x bx rfl
 cases betweenB r.act 0 2
 ·rw [Bool.false_and]; simp only [go_sem]
 rw [Bool.true_and]
 simp only [go_sem, List.length_map, wp]
 have cc := con_rbetween r.channel 0 ((m.places.length : Int) - 1)
 refine CallU.free cc (by simp only [go_sem]) (by simp only [go_sem]) ?_
 rintro x bx rfl
 cases betweenB r.channel 0 ((m.places.length : Int) - 1)
 ·rw [Bool.false_and]; simp only [go_sem]
 rw [Bool.true_and]
 simp only [go_sem, List.length_map, wl]
 have cc := con_rbetween r.letter 0 ((m.letters.length : Int) - 1)
 refine CallU.free cc (by simp only [go_sem]) (by simp only [go_sem]) ?_
 rintro x bx rfl
 cases betweenB r.letter 0 ((m.letters.length : Int) - 1)
 ·rw [Bool.false_and]; simp only [go_sem]
 rw [Bool.true_and]
 simp only [go_sem]
 cases hq4 : q4z r
 ·rw [Bool.false_and]
  obtain ⟨a0, a1 | ⟨b1, a2⟩⟩ := q4z_false hq4
  ·simp only [go_sem, a0, a1]
  ·simp only [go_sem, a0, b1, a2]
 rw [Bool.true_and]
 rcases q4z_true hq4 with a0 | ⟨a0, a1, a2⟩
 ·simp only [go_sem, List.length_map, a0]
  cases hzz5 : z5 r
  ·rw [Bool.false_and]
   rcases z5_false hzz5 with a1 | ⟨b1, a2⟩
   ·simp only [go_sem, a1]
   ·simp only [go_sem, List.length_map, b1, a2]
  rw [Bool.true_and]
  obtain ⟨z51, z52⟩ := z5_true hzz5
  simp only [go_sem, List.length_map, z51, z52]
  cases hzz6 : z6 r
  ·rw [Bool.false_and]
   rcases z6_false hzz6 with a1 | ⟨b1, a2⟩
   ·simp only [go_sem, a1]
   ·simp only [go_sem, List.length_map, b1, a2]
  rw [Bool.true_and]
  obtain ⟨z61, z62⟩ := z6_true hzz6
  simp only [go_sem, List.length_map, z61, z62]
 ·simp only [go_sem, List.length_map, a0, a1, a2]
  cases hzz5 : z5 r
  ·rw [Bool.false_and]
   rcases z5_false hzz5 with a1 | ⟨b1, a2⟩
   ·simp only [go_sem, a1]
   ·simp only [go_sem, List.length_map, b1, a2]
  rw [Bool.true_and]
  obtain ⟨z51, z52⟩ := z5_true hzz5
  simp only [go_sem, List.length_map, z51, z52]
  cases hzz6 : z6 r
  ·rw [Bool.false_and]
   rcases z6_false hzz6 with a1 | ⟨b1, a2⟩
   ·simp only [go_sem, a1]
   ·simp only [go_sem, List.length_map, b1, a2]
  rw [Bool.true_and]
  obtain ⟨z61, z62⟩ := z6_true hzz6
  simp only [go_sem, List.length_map, z61, z62]
end Go.AM

/-! ## GN3 -/
namespace Go.AM
open Go Go.Proofs Go.RowKit
set_option maxRecDepth 100000
set_option maxHeartbeats 8000000
theorem con_rright3 (m : MD) (r : RD) (h : RightM m) (hr : LenR r) (hk : m.kind = 3) : Con Tryz.prog 76 [vM m, vRule r] [] fun x _ => x = vb (betweenB r.src 0 ((m.states.length : Int) - 1) && (betweenB r.dst 0 ((m.states.length : Int) - 1) && (z2 r && (z3 r && (betweenB r.act 0 2 && (betweenB r.channel 0 ((m.places.length : Int) - 1) && (betweenB r.letter 0 ((m.letters.length : Int) - 1) && (q4z r && (z5 r && (z6 r && ((r.second == 0)))))))))))) := by
 refine Con.intro Tryz.func76 rfl Tryz.ntmps76 Tryz.results76 (by kernel_rfl) (by simp) 0 (by simp) ?_
 have h1 := h.states; have h2 := h.places; have h3 := h.letters
 have ws : IntKind.i64.wrap ((m.states.length : Int) - 1) = ((m.states.length : Int) - 1) := wrap_in (by omega) (by omega)
 have wp : IntKind.i64.wrap ((m.places.length : Int) - 1) = ((m.places.length : Int) - 1) := wrap_in (by omega) (by omega)
 have wl : IntKind.i64.wrap ((m.letters.length : Int) - 1) = ((m.letters.length : Int) - 1) := wrap_in (by omega) (by omega)
 have hp := hr.path; have hn := hr.next
 have wn : IntKind.i64.wrap ((r.path.length : Int) + (r.next.length : Int)) = (r.path.length : Int) + (r.next.length : Int) := wrap_in (by omega) (by omega)
 simp only [go_sem, vM, cM, vss, hk, List.length_map, ws]
 have cc := con_rbetween r.src 0 ((m.states.length : Int) - 1)
 refine CallU.free cc (by simp only [go_sem]) (by simp only [go_sem]) ?_
 rintro x bx rfl
 cases betweenB r.src 0 ((m.states.length : Int) - 1)
 ·rw [Bool.false_and]; simp only [go_sem]
 rw [Bool.true_and]
 simp only [go_sem, List.length_map, ws]
 have cc := con_rbetween r.dst 0 ((m.states.length : Int) - 1)
 refine CallU.free cc (by simp only [go_sem]) (by simp only [go_sem]) ?_
 rintro x bx rfl
 cases betweenB r.dst 0 ((m.states.length : Int) - 1)
 ·rw [Bool.false_and]; simp only [go_sem]
 rw [Bool.true_and]
 simp only [go_sem, List.length_map]
 cases hzz2 : z2 r
 ·rw [Bool.false_and]
  rcases z2_false hzz2 with a1 | ⟨b1, a2⟩
  ·simp only [go_sem, a1]
  ·simp only [go_sem, List.length_map, b1, a2]
 rw [Bool.true_and]
 obtain ⟨z21, z22⟩ := z2_true hzz2
 simp only [go_sem, List.length_map, z21, z22]
 cases hzz3 : z3 r
 ·rw [Bool.false_and]
  have a1 := z3_false hzz3
  simp only [go_sem, a1]
 rw [Bool.true_and]
 have z31 := z3_true hzz3
 simp only [go_sem, z31]
 have cc := con_rbetween r.act 0 2
 refine CallU.free cc (by simp only [go_sem]) (by simp only [go_sem]) ?_
 rintro x bx rfl
 cases betweenB r.act 0 2
 ·rw [Bool.false_and]; simp only [go_sem]
 rw [Bool.true_and]
 simp only [go_sem, List.length_map, wp]
 have cc := con_rbetween r.channel 0 ((m.places.length : Int) - 1)
 refine CallU.free cc (by simp only [go_sem]) (by simp only [go_sem]) ?_
 rintro x bx rfl
 cases betweenB r.channel 0 ((m.places.length : Int) - 1)
 ·rw [Bool.false_and]; simp only [go_sem]
 rw [Bool.true_and]
 simp only [go_sem, List.length_map, wl]
 have cc := con_rbetween r.letter 0 ((m.letters.length : Int) - 1)
 refine CallU.free cc (by simp only [go_sem]) (by simp only [go_sem]) ?_
 rintro x bx rfl
 cases betweenB r.letter 0 ((m.letters.length : Int) - 1)
 ·rw [Bool.false_and]; simp only [go_sem]
 rw [Bool.true_and]
 simp only [go_sem]
 cases hq4 : q4z r
 ·rw [Bool.false_and]
  obtain ⟨a0, a1 | ⟨b1, a2⟩⟩ := q4z_false hq4
  ·simp only [go_sem, a0, a1]
  ·simp only [go_sem, a0, b1, a2]
 rw [Bool.true_and]
 rcases q4z_true hq4 with a0 | ⟨a0, a1, a2⟩
 ·simp only [go_sem, List.length_map, a0]
  cases hzz5 : z5 r
  ·rw [Bool.false_and]
   rcases z5_false hzz5 with a1 | ⟨b1, a2⟩
   ·simp only [go_sem, a1]
   ·simp only [go_sem, List.length_map, b1, a2]
  rw [Bool.true_and]
  obtain ⟨z51, z52⟩ := z5_true hzz5
  simp only [go_sem, List.length_map, z51, z52]
  cases hzz6 : z6 r
  ·rw [Bool.false_and]
   rcases z6_false hzz6 with a1 | ⟨b1, a2⟩
   ·simp only [go_sem, a1]
   ·simp only [go_sem, List.length_map, b1, a2]
  rw [Bool.true_and]
  obtain ⟨z61, z62⟩ := z6_true hzz6
  simp only [go_sem, List.length_map, z61, z62]
 ·simp only [go_sem, List.length_map, a0, a1, a2]
  cases hzz5 : z5 r
  ·rw [Bool.false_and]
   rcases z5_false hzz5 with a1 | ⟨b1, a2⟩
   ·simp only [go_sem, a1]
   ·simp only [go_sem, List.length_map, b1, a2]
  rw [Bool.true_and]
  obtain ⟨z51, z52⟩ := z5_true hzz5
  simp only [go_sem, List.length_map, z51, z52]
  cases hzz6 : z6 r
  ·rw [Bool.false_and]
   rcases z6_false hzz6 with a1 | ⟨b1, a2⟩
   ·simp only [go_sem, a1]
   ·simp only [go_sem, List.length_map, b1, a2]
  rw [Bool.true_and]
  obtain ⟨z61, z62⟩ := z6_true hzz6
  simp only [go_sem, List.length_map, z61, z62]
end Go.AM

/-! ## GN4 -/
namespace Go.AM
open Go Go.Proofs Go.RowKit
set_option maxRecDepth 100000
set_option maxHeartbeats 8000000
theorem con_rright4 (m : MD) (r : RD) (h : RightM m) (hr : LenR r) (hk : m.kind = 4) : Con Tryz.prog 76 [vM m, vRule r] [] fun x _ => x = vb (betweenB r.src 0 ((m.states.length : Int) - 1) && (betweenB r.dst 0 ((m.states.length : Int) - 1) && (z2 r && (z3 r && (z4 r && (fewB r.path m.levels ((m.letters.length : Int) - 1) && (fewB r.next m.levels ((m.letters.length : Int) - 1) && (!((r.path.length : Int) + (r.next.length : Int) == 0) && (z6 r && ((r.second == 0))))))))))) := by
 refine Con.intro Tryz.func76 rfl Tryz.ntmps76 Tryz.results76 (by kernel_rfl) (by simp) 0 (by simp) ?_
 have h1 := h.states; have h2 := h.places; have h3 := h.letters
 have ws : IntKind.i64.wrap ((m.states.length : Int) - 1) = ((m.states.length : Int) - 1) := wrap_in (by omega) (by omega)
 have wp : IntKind.i64.wrap ((m.places.length : Int) - 1) = ((m.places.length : Int) - 1) := wrap_in (by omega) (by omega)
 have wl : IntKind.i64.wrap ((m.letters.length : Int) - 1) = ((m.letters.length : Int) - 1) := wrap_in (by omega) (by omega)
 have hp := hr.path; have hn := hr.next
 have wn : IntKind.i64.wrap ((r.path.length : Int) + (r.next.length : Int)) = (r.path.length : Int) + (r.next.length : Int) := wrap_in (by omega) (by omega)
 simp only [go_sem, vM, cM, vss, hk, List.length_map, ws]
 have cc := con_rbetween r.src 0 ((m.states.length : Int) - 1)
 refine CallU.free cc (by simp only [go_sem]) (by simp only [go_sem]) ?_
 rintro x bx rfl
 cases betweenB r.src 0 ((m.states.length : Int) - 1)
 ·rw [Bool.false_and]; simp only [go_sem]
 rw [Bool.true_and]
 simp only [go_sem, List.length_map, ws]
 have cc := con_rbetween r.dst 0 ((m.states.length : Int) - 1)
 refine CallU.free cc (by simp only [go_sem]) (by simp only [go_sem]) ?_
 rintro x bx rfl
 cases betweenB r.dst 0 ((m.states.length : Int) - 1)
 ·rw [Bool.false_and]; simp only [go_sem]
 rw [Bool.true_and]
 simp only [go_sem, List.length_map]
 cases hzz2 : z2 r
 ·rw [Bool.false_and]
  rcases z2_false hzz2 with a1 | ⟨b1, a2⟩
  ·simp only [go_sem, a1]
  ·simp only [go_sem, List.length_map, b1, a2]
 rw [Bool.true_and]
 obtain ⟨z21, z22⟩ := z2_true hzz2
 simp only [go_sem, List.length_map, z21, z22]
 cases hzz3 : z3 r
 ·rw [Bool.false_and]
  have a1 := z3_false hzz3
  simp only [go_sem, a1]
 rw [Bool.true_and]
 have z31 := z3_true hzz3
 simp only [go_sem, z31]
 cases hzz4 : z4 r
 ·rw [Bool.false_and]
  rcases z4_false hzz4 with a1 | ⟨b1, a2⟩ | ⟨b1, b2, a3⟩
  ·simp only [go_sem, a1]
  ·simp only [go_sem, b1, a2]
  ·simp only [go_sem, b1, b2, a3]
 rw [Bool.true_and]
 obtain ⟨z41, z42, z43⟩ := z4_true hzz4
 simp only [go_sem, List.length_map, wl, z41, z42, z43]
 have cc := con_rfew r.path m.levels ((m.letters.length : Int) - 1) hr.len.path
 refine CallU.free cc (by simp only [go_sem]) (by simp only [go_sem]) ?_
 rintro x bx rfl
 cases fewB r.path m.levels ((m.letters.length : Int) - 1)
 ·rw [Bool.false_and]; simp only [go_sem]
 rw [Bool.true_and]
 simp only [go_sem, List.length_map, wl]
 have cc := con_rfew r.next m.levels ((m.letters.length : Int) - 1) hr.len.next
 refine CallU.free cc (by simp only [go_sem]) (by simp only [go_sem]) ?_
 rintro x bx rfl
 cases fewB r.next m.levels ((m.letters.length : Int) - 1)
 ·rw [Bool.false_and]; simp only [go_sem]
 rw [Bool.true_and]
 simp only [go_sem, List.length_map, wn]
 cases hq5 : ((r.path.length : Int) + (r.next.length : Int) == 0)
 case true => rw [Bool.not_true, Bool.false_and]; simp only [go_sem, wn]
 rw [Bool.not_false, Bool.true_and]
 simp only [go_sem, List.length_map, wn]
 cases hzz6 : z6 r
 ·rw [Bool.false_and]
  rcases z6_false hzz6 with a1 | ⟨b1, a2⟩
  ·simp only [go_sem, a1]
  ·simp only [go_sem, List.length_map, b1, a2]
 rw [Bool.true_and]
 obtain ⟨z61, z62⟩ := z6_true hzz6
 simp only [go_sem, List.length_map, z61, z62]
end Go.AM

/-! ## GN5 -/
namespace Go.AM
open Go Go.Proofs Go.RowKit
set_option maxRecDepth 100000
set_option maxHeartbeats 8000000
theorem con_rright5 (m : MD) (r : RD) (h : RightM m) (hr : LenR r) (hk : m.kind = 5) : Con Tryz.prog 76 [vM m, vRule r] [] fun x _ => x = vb (betweenB r.src 0 ((m.states.length : Int) - 1) && (betweenB r.dst 0 ((m.states.length : Int) - 1) && (z2 r && (z3 r && (z4 r && (z5 r && (agesB m.places.length m.age r && ((r.second == 0))))))))) := by
 refine Con.intro Tryz.func76 rfl Tryz.ntmps76 Tryz.results76 (by kernel_rfl) (by simp) 0 (by simp) ?_
 have h1 := h.states; have h2 := h.places; have h3 := h.letters
 have ws : IntKind.i64.wrap ((m.states.length : Int) - 1) = ((m.states.length : Int) - 1) := wrap_in (by omega) (by omega)
 have wp : IntKind.i64.wrap ((m.places.length : Int) - 1) = ((m.places.length : Int) - 1) := wrap_in (by omega) (by omega)
 have wl : IntKind.i64.wrap ((m.letters.length : Int) - 1) = ((m.letters.length : Int) - 1) := wrap_in (by omega) (by omega)
 have hp := hr.path; have hn := hr.next
 have wn : IntKind.i64.wrap ((r.path.length : Int) + (r.next.length : Int)) = (r.path.length : Int) + (r.next.length : Int) := wrap_in (by omega) (by omega)
 simp only [go_sem, vM, cM, vss, hk, List.length_map, ws]
 have cc := con_rbetween r.src 0 ((m.states.length : Int) - 1)
 refine CallU.free cc (by simp only [go_sem]) (by simp only [go_sem]) ?_
 rintro x bx rfl
 cases betweenB r.src 0 ((m.states.length : Int) - 1)
 ·rw [Bool.false_and]; simp only [go_sem]
 rw [Bool.true_and]
 simp only [go_sem, List.length_map, ws]
 have cc := con_rbetween r.dst 0 ((m.states.length : Int) - 1)
 refine CallU.free cc (by simp only [go_sem]) (by simp only [go_sem]) ?_
 rintro x bx rfl
 cases betweenB r.dst 0 ((m.states.length : Int) - 1)
 ·rw [Bool.false_and]; simp only [go_sem]
 rw [Bool.true_and]
 simp only [go_sem, List.length_map]
 cases hzz2 : z2 r
 ·rw [Bool.false_and]
  rcases z2_false hzz2 with a1 | ⟨b1, a2⟩
  ·simp only [go_sem, a1]
  ·simp only [go_sem, List.length_map, b1, a2]
 rw [Bool.true_and]
 obtain ⟨z21, z22⟩ := z2_true hzz2
 simp only [go_sem, List.length_map, z21, z22]
 cases hzz3 : z3 r
 ·rw [Bool.false_and]
  have a1 := z3_false hzz3
  simp only [go_sem, a1]
 rw [Bool.true_and]
 have z31 := z3_true hzz3
 simp only [go_sem, z31]
 cases hzz4 : z4 r
 ·rw [Bool.false_and]
  rcases z4_false hzz4 with a1 | ⟨b1, a2⟩ | ⟨b1, b2, a3⟩
  ·simp only [go_sem, a1]
  ·simp only [go_sem, b1, a2]
  ·simp only [go_sem, b1, b2, a3]
 rw [Bool.true_and]
 obtain ⟨z41, z42, z43⟩ := z4_true hzz4
 simp only [go_sem, List.length_map, z41, z42, z43]
 cases hzz5 : z5 r
 ·rw [Bool.false_and]
  rcases z5_false hzz5 with a1 | ⟨b1, a2⟩
  ·simp only [go_sem, a1]
  ·simp only [go_sem, List.length_map, b1, a2]
 rw [Bool.true_and]
 obtain ⟨z51, z52⟩ := z5_true hzz5
 simp only [go_sem, List.length_map, z51, z52]
 have cc := con_rtimed m r hr.len h.places (h.age hk)
 refine CallU.free cc (by simp only [go_sem]) (by simp only [go_sem, hk]) ?_
 rintro x bx rfl
 cases agesB m.places.length m.age r
 ·rw [Bool.false_and]; simp only [go_sem]
 rw [Bool.true_and]
 simp only [go_sem]
end Go.AM

/-! ## GN6 -/
namespace Go.AM
open Go Go.Proofs Go.RowKit
set_option maxRecDepth 100000
set_option maxHeartbeats 8000000
theorem con_rright6 (m : MD) (r : RD) (h : RightM m) (hr : LenR r) (hk : m.kind = 6) : Con Tryz.prog 76 [vM m, vRule r] [] fun x _ => x = vb (betweenB r.src (-1) ((m.states.length : Int) - 1) && (betweenB r.dst 0 ((m.states.length : Int) - 1) && (listB r.need m.places.length 0 16 && (listB r.give m.places.length 0 16 && (z3 r && (z4 r && (z5 r && (z6 r && (q7 m r))))))))) := by
 refine Con.intro Tryz.func76 rfl Tryz.ntmps76 Tryz.results76 (by kernel_rfl) (by simp) 0 (by simp) ?_
 have h1 := h.states; have h2 := h.places; have h3 := h.letters
 have ws : IntKind.i64.wrap ((m.states.length : Int) - 1) = ((m.states.length : Int) - 1) := wrap_in (by omega) (by omega)
 have wp : IntKind.i64.wrap ((m.places.length : Int) - 1) = ((m.places.length : Int) - 1) := wrap_in (by omega) (by omega)
 have wl : IntKind.i64.wrap ((m.letters.length : Int) - 1) = ((m.letters.length : Int) - 1) := wrap_in (by omega) (by omega)
 have hp := hr.path; have hn := hr.next
 have wn : IntKind.i64.wrap ((r.path.length : Int) + (r.next.length : Int)) = (r.path.length : Int) + (r.next.length : Int) := wrap_in (by omega) (by omega)
 simp only [go_sem, vM, cM, vss, hk, List.length_map, ws]
 have cc := con_rbetween r.src (-1) ((m.states.length : Int) - 1)
 refine CallU.free cc (by simp only [go_sem]) (by simp only [go_sem]) ?_
 rintro x bx rfl
 cases betweenB r.src (-1) ((m.states.length : Int) - 1)
 ·rw [Bool.false_and]; simp only [go_sem]
 rw [Bool.true_and]
 simp only [go_sem, List.length_map, ws]
 have cc := con_rbetween r.dst 0 ((m.states.length : Int) - 1)
 refine CallU.free cc (by simp only [go_sem]) (by simp only [go_sem]) ?_
 rintro x bx rfl
 cases betweenB r.dst 0 ((m.states.length : Int) - 1)
 ·rw [Bool.false_and]; simp only [go_sem]
 rw [Bool.true_and]
 simp only [go_sem, List.length_map]
 have cc := con_rlistG r.need m.places.length 0 16 hr.len.need
 refine CallU.free cc (by simp only [go_sem]) (by simp only [go_sem]) ?_
 rintro x bx rfl
 cases listB r.need m.places.length 0 16
 ·rw [Bool.false_and]; simp only [go_sem]
 rw [Bool.true_and]
 simp only [go_sem, List.length_map]
 have cc := con_rlistG r.give m.places.length 0 16 hr.len.give
 refine CallU.free cc (by simp only [go_sem]) (by simp only [go_sem]) ?_
 rintro x bx rfl
 cases listB r.give m.places.length 0 16
 ·rw [Bool.false_and]; simp only [go_sem]
 rw [Bool.true_and]
 simp only [go_sem, List.length_map]
 cases hzz3 : z3 r
 ·rw [Bool.false_and]
  have a1 := z3_false hzz3
  simp only [go_sem, a1]
 rw [Bool.true_and]
 have z31 := z3_true hzz3
 simp only [go_sem, z31]
 cases hzz4 : z4 r
 ·rw [Bool.false_and]
  rcases z4_false hzz4 with a1 | ⟨b1, a2⟩ | ⟨b1, b2, a3⟩
  ·simp only [go_sem, a1]
  ·simp only [go_sem, b1, a2]
  ·simp only [go_sem, b1, b2, a3]
 rw [Bool.true_and]
 obtain ⟨z41, z42, z43⟩ := z4_true hzz4
 simp only [go_sem, List.length_map, z41, z42, z43]
 cases hzz5 : z5 r
 ·rw [Bool.false_and]
  rcases z5_false hzz5 with a1 | ⟨b1, a2⟩
  ·simp only [go_sem, a1]
  ·simp only [go_sem, List.length_map, b1, a2]
 rw [Bool.true_and]
 obtain ⟨z51, z52⟩ := z5_true hzz5
 simp only [go_sem, List.length_map, z51, z52]
 cases hzz6 : z6 r
 ·rw [Bool.false_and]
  rcases z6_false hzz6 with a1 | ⟨b1, a2⟩
  ·simp only [go_sem, a1]
  ·simp only [go_sem, List.length_map, b1, a2]
 rw [Bool.true_and]
 obtain ⟨z61, z62⟩ := z6_true hzz6
 simp only [go_sem, List.length_map, z61, z62]
 unfold q7
 cases hs : (r.src == -1)
 ·have hs2 : ¬ r.src = -1 := beq_eq_false_iff_ne.1 hs
  rw [if_neg hs2]
  simp only [go_sem, List.length_map, ws]
  have cc := con_rbetween r.second (-1) ((m.states.length : Int) - 1)
  refine CallU.free cc (by simp only [go_sem]) (by simp only [go_sem]) ?_
  rintro x bx rfl
  simp only [go_sem]
 ·have hs2 : r.src = -1 := beq_iff_eq.1 hs
  rw [if_pos hs2]
  cases h2 : (r.second == -1)
  ·rw [Bool.false_and]; simp only [go_sem, h2]
  rw [Bool.true_and]
  simp only [go_sem, h2]
  have cc := con_rzero r.need hr.len.need
  refine CallU.free cc (by simp only [go_sem]) (by simp only [go_sem]) ?_
  rintro x bx rfl
  simp only [go_sem]
end Go.AM

/-! ## GO -/
namespace Go.AM
open Go Go.Proofs Go.RowKit
theorem nilB {α : Type} [BEq α] (l : List α) : (l == []) = (l.length == 0) := by cases l <;> rfl
theorem list_small (l : List Int) (n : Nat) : listB l n 0 16 = (smallB l && decide (l.length = n)) := by
 unfold listB smallB
 congr 1
 rw [Bool.eq_iff_iff, beq_iff_eq, decide_eq_true_eq]
 omega
theorem list_move (l : List Int) (n : Nat) : listB l n (-1) ((n : Int) - 1) = (decide (l.length = n) && l.all fun x => betweenB x (-1) ((n : Int) - 1)) := by
 unfold listB
 rw [Bool.and_comm]
 congr 1
 rw [Bool.eq_iff_iff, beq_iff_eq, decide_eq_true_eq]
 omega
theorem list_index (l : List Int) (n : Nat) : (l.all fun x => betweenB x 0 ((n : Int) - 1)) = l.all fun x => indexB x n := by
 congr 1
 exact funext fun x => index_between x n
theorem same_only1 (r : RD) : sameB r (onlyR 1 r) = (z4 r && z5 r && z6 r && (r.second == 0)) := by
 unfold sameB onlyR z4 z5 z6
 rw [if_pos rfl]
 simp only [beq_self_eq_true, Bool.true_and, nilB]
 ac_rfl
theorem same_only2 (k : Int) (hk : k = 2 ∨ k = 3) (r : RD) : sameB r (onlyR k r) = (z2 r && z3 r && z5 r && z6 r && (r.second == 0)) := by
 unfold sameB onlyR z2 z3 z5 z6
 rw [if_neg (by omega), if_pos hk]
 simp only [beq_self_eq_true, Bool.true_and, Bool.and_true, nilB]
 ac_rfl
theorem same_only4 (r : RD) : sameB r (onlyR 4 r) = (z2 r && z3 r && z4 r && z6 r && (r.second == 0)) := by
 unfold sameB onlyR z2 z3 z4 z6
 rw [if_neg (by omega), if_neg (by omega), if_pos rfl]
 simp only [beq_self_eq_true, Bool.true_and, Bool.and_true, nilB]
 ac_rfl
theorem same_only5 (r : RD) : sameB r (onlyR 5 r) = (z2 r && z3 r && z4 r && z5 r && (r.second == 0)) := by
 unfold sameB onlyR z2 z3 z4 z5
 rw [if_neg (by omega), if_neg (by omega), if_neg (by omega), if_pos rfl]
 simp only [beq_self_eq_true, Bool.true_and, Bool.and_true, nilB]
 ac_rfl
theorem same_only6 (r : RD) : sameB r (onlyR 6 r) = (z3 r && z4 r && z5 r && z6 r) := by
 unfold sameB onlyR z3 z4 z5 z6
 rw [if_neg (by omega), if_neg (by omega), if_neg (by omega), if_neg (by omega)]
 simp only [beq_self_eq_true, Bool.true_and, Bool.and_true, nilB]
 ac_rfl
theorem ends_low {m : MD} {r : RD} (hk : m.kind ≠ 6) : endsR m r = (indexB r.dst m.states.length && indexB r.src m.states.length) := by
 unfold endsR
 rw [beq_eq_false_iff_ne.2 hk, Bool.false_and, Bool.or_false]
theorem acts_eq {np nl : Nat} {r : RD} (hp : 1 ≤ np) (hl : 1 ≤ nl) : actsB np nl r = (betweenB r.act 0 2 && indexB r.channel np && indexB r.letter nl && q4z r) := by
 unfold actsB q4z betweenB indexB
 by_cases h0 : r.act = 0
 ·rw [if_pos h0, h0]
  rw [Bool.eq_iff_iff]
  simp only [Bool.and_eq_true, beq_iff_eq, decide_eq_true_eq, Bool.not_eq_true', Bool.and_eq_false_iff, Bool.or_eq_false_iff, bne_eq_false_iff_eq, beq_eq_false_iff_ne]
  omega
 ·rw [if_neg h0, beq_eq_false_iff_ne.2 h0, Bool.false_and, Bool.not_false, Bool.and_true]
  rw [Bool.eq_iff_iff]
  simp only [Bool.and_eq_true, decide_eq_true_eq]
  omega
theorem paths_eq {nl : Nat} {lv : Int} {r : RD} : pathsB nl lv r = (fewB r.path lv ((nl : Int) - 1) && fewB r.next lv ((nl : Int) - 1) && !((r.path.length : Int) + (r.next.length : Int) == 0)) := by
 unfold pathsB fewB
 rw [list_index, list_index]
 have e : decide (0 < r.path.length + r.next.length) = !((r.path.length : Int) + (r.next.length : Int) == 0) := by
  rw [Bool.eq_iff_iff, decide_eq_true_eq, Bool.not_eq_true', beq_eq_false_iff_ne]
  omega
 rw [e]
 ac_rfl
theorem branch_eq {ns : Nat} {r : RD} {m : MD} (hm : m.states.length = ns) : (betweenB r.src (-1) ((ns : Int) - 1) && q7 m r) = ((indexB r.src ns || r.src == -1) && ((r.second == -1 || indexB r.second ns) && (decide (0 ≤ r.src) || (r.second == -1 && r.need.all fun x => x == 0)))) := by
 have e0 : (fun x => betweenB x 0 0) = fun x : Int => x == 0 := funext fun x => between_zero x
 unfold q7
 rw [hm, e0]
 by_cases h : r.src = -1
 ·rw [if_pos h, h]
  have e1 : decide ((0 : Int) ≤ -1) = false := by decide
  have e2 : betweenB (-1) (-1) ((ns : Int) - 1) = true := between_true (by omega) (by omega)
  have e3 : ((-1 : Int) == -1) = true := by decide
  rw [e1, e2, e3, Bool.or_true, Bool.true_and, Bool.true_and, Bool.false_or]
  cases h2 : r.second == -1
  ·rw [Bool.false_and, Bool.and_false]
  ·rw [Bool.true_or, Bool.true_and, Bool.true_and]
 ·rw [if_neg h, beq_eq_false_iff_ne.2 h, Bool.or_false]
  unfold betweenB indexB
  rw [Bool.eq_iff_iff]
  simp only [Bool.and_eq_true, Bool.or_eq_true, decide_eq_true_eq, beq_iff_eq]
  constructor
  ·rintro ⟨h1, h2⟩
   exact ⟨by omega, by omega, .inl (by omega)⟩
  ·rintro ⟨h1, h2, -⟩
   omega
theorem Con.toB {f : FuncId} {args : List AV} {b b' : Bool} (h : Con Tryz.prog f args [] fun x _ => x = vb b) (e : b = b') : Con Tryz.prog f args [] fun x _ => x = vb b' := e ▸ h
theorem con_rrightG (m : MD) (r : RD) (h : RightM m) (hr : LenR r) (hb : betweenB m.kind 1 6 = true) (hs : sizedB m = true) : Con Tryz.prog 76 [vM m, vRule r] [] fun x _ => x = vb (rightR m r) := by
 have hpl : m.kind = 2 ∨ m.kind = 3 → 1 ≤ m.places.length ∧ 1 ≤ m.letters.length := fun hk => by
  unfold sizedB betweenB at hs
  simp only [Bool.and_eq_true, decide_eq_true_eq] at hs
  have e1 : lim 2 0 = 1 ∧ lim 2 2 = 1 ∧ lim 3 0 = 1 ∧ lim 3 2 = 1 := by decide
  rcases hk with hk | hk
  ·rw [hk] at hs; omega
  ·rw [hk] at hs; omega
 rcases kind_cases hb with hk | hk | hk | hk | hk | hk
 ·refine (con_rright1 m r h hr hk).toB ?_
  unfold rightR fitsR
  rw [if_pos hk, ends_low (by omega), hk, same_only1, index_between, index_between, list_small, list_small, list_move]
  unfold changesB movesB
  ac_rfl
 ·refine (con_rright2 m r h hr hk).toB ?_
  have hq := hpl (.inl hk)
  unfold rightR fitsR
  rw [if_neg (by omega), if_pos (.inl hk), ends_low (by omega), hk, same_only2 2 (.inl rfl), acts_eq hq.1 hq.2, index_between, index_between, index_between, index_between]
  ac_rfl
 ·refine (con_rright3 m r h hr hk).toB ?_
  have hq := hpl (.inr hk)
  unfold rightR fitsR
  rw [if_neg (by omega), if_pos (.inr hk), ends_low (by omega), hk, same_only2 3 (.inr rfl), acts_eq hq.1 hq.2, index_between, index_between, index_between, index_between]
  ac_rfl
 ·refine (con_rright4 m r h hr hk).toB ?_
  unfold rightR fitsR
  rw [if_neg (by omega), if_neg (by omega), if_pos hk, ends_low (by omega), hk, same_only4, paths_eq, index_between, index_between]
  ac_rfl
 ·refine (con_rright6 m r h hr hk).toB ?_
  unfold rightR fitsR
  rw [if_neg (by omega), if_neg (by omega), if_neg (by omega), if_neg (by omega), hk, same_only6]
  unfold endsR branchB changesB
  have e6 : (m.kind == 6) = true := beq_iff_eq.2 hk
  have eb := branch_eq (r := r) (m := m) rfl
  rw [e6, Bool.true_and, index_between, list_small, list_small]
  generalize (indexB r.src m.states.length || r.src == -1) = A at eb ⊢
  generalize (r.second == -1 || indexB r.second m.states.length) = B at eb ⊢
  generalize (decide (0 ≤ r.src) || (r.second == -1 && r.need.all fun x => x == 0)) = C at eb ⊢
  generalize betweenB r.src (-1) ((m.states.length : Int) - 1) = D at eb ⊢
  generalize q7 m r = E at eb ⊢
  generalize smallB r.need = F1
  generalize smallB r.give = F2
  generalize decide (r.need.length = m.places.length) = F3
  generalize decide (r.give.length = m.places.length) = F4
  have e : (D && (indexB r.dst m.states.length && ((F1 && F3) && ((F2 && F4) && (z3 r && (z4 r && (z5 r && (z6 r && E)))))))) = ((D && E) && (indexB r.dst m.states.length && ((F1 && F3) && ((F2 && F4) && (z3 r && (z4 r && (z5 r && z6 r))))))) := by ac_rfl
  rw [e, eb]
  ac_rfl
 ·refine (con_rright5 m r h hr hk).toB ?_
  unfold rightR fitsR
  rw [if_neg (by omega), if_neg (by omega), if_neg (by omega), if_pos hk, ends_low (by omega), hk, same_only5, index_between, index_between]
  ac_rfl
end Go.AM
