/- QC2 QD QB QB2 QB3 -/
import Derived.Test.YtpmodjodfimejaaGreatg24
import Derived.Test.YtpmodjodfimejaaGreatg12
import Derived.Test.YtpmodjodfimejaaGreatg20
import Derived.Test.YtpmodjodfimejaaGreatg21
import Derived.Test.YtpmodjodfimejaaGreatg8
namespace Go.AM
open Go Go.Proofs Go.RowKit
set_option maxRecDepth 100000
set_option maxHeartbeats 8000000
theorem con_rSameG (a b : MD) (ha : LenM a) (hb : LenM b) : Con Tryz.prog 24 [vM a, vM b] [] fun r _ => r = vb (sameMD a b) := by
 have e1 : ∀ m : MD, vM m = .ag [vi m.kind, vss m.states, vss m.places, vss m.letters, vs 0 m.ranks, vi m.levels, vi m.age, .sl 0 14 (m.rules.map vRule), vi m.start.n, .sl 0 2 (m.start.kids.map vV)] := fun _ => rfl
 have hla := names_lens ha
 have hc := con_rsameV a.start b.start ha.start hb.start
 rw [vV_eq, vV_eq] at hc
 rw [e1 a, e1 b]
 refine Con.intro Tryz.func24 rfl Tryz.ntmps24 Tryz.results24 (by kernel_rfl) (by simp) 0 (by simp) ?_
 unfold sameMD sameRs
 by_cases he : a.rules.length = b.rules.length
 case neg =>
  have he' : ((a.rules.length : Int) != (b.rules.length : Int)) = true := bne_iff_ne.2 (by omega)
  rw [decide_eq_false he]
  simp only [go_sem, vss, he', Bool.false_and, Bool.and_false, List.length_map]
 rw [decide_eq_true he, Bool.true_and]
 have he' : ((a.rules.length : Int) != (b.rules.length : Int)) = false := by rw [he]; simp
 simp only [go_sem, vss, he', List.length_map]
 refine LoopK.intro (fun i : Nat => ⟨86, [(2, .pb 0 0), (3, .pb 1 0), (5, vi i)], [[vi a.kind, .sl 0 1 (a.states.map vStr), .sl 0 1 (a.places.map vStr), .sl 0 1 (a.letters.map vStr), vs 0 a.ranks, vi a.levels, vi a.age, .sl 0 14 (a.rules.map vRule), vi a.start.n, .sl 0 2 (a.start.kids.map vV)], [vi b.kind, .sl 0 1 (b.states.map vStr), .sl 0 1 (b.places.map vStr), .sl 0 1 (b.letters.map vStr), vs 0 b.ranks, vi b.levels, vi b.age, .sl 0 14 (b.rules.map vRule), vi b.start.n, .sl 0 2 (b.start.kids.map vV)]]⟩)
  (fun i => a.rules.length - i) (fun i => i <= a.rules.length /\ ∀ j, j < i -> sameB a.rules[j]! b.rules[j]! = true) 0 ⟨by omega, fun j hj => by omega⟩ ?_ ?_
 ·simp only [go_sem]
  all_goals exact leB_self _
 rintro i ⟨hi, hb'⟩
 by_cases h : i < a.rules.length
 ·have h2 : i < b.rules.length := by omega
  have g1 := getRule h
  have g2 := getRule h2
  have hw : IntKind.i64.wrap (i + 1) = i + 1 := wrap_in (by omega) (by omega)
  simp only [go_sem, h, List.length_map]
  refine DrawK.walk 12 mixed (by kernel_rfl) ?_
  simp only [go_sem, h, h2, g1, g2, List.length_map]
  refine CallY.mk (con_rrules a.rules[i]! b.rules[i]! (ha.rules _ (mem_bangI h)).len) (by simp only [go_sem]) (by simp only [go_sem]) (.inl (by simp only [go_sem])) ?_
  cases hq : sameB a.rules[i]! b.rules[i]!
  ·rw [all_bad' (p := fun i => sameB a.rules[i]! b.rules[i]!) h hq]
   simp only [go_sem, Bool.false_and, Bool.and_false]
  ·simp only [go_sem, hw]
   refine roundK.intro (i + 1) ⟨by omega, fun j hj => ?_⟩ (by omega) ?_
   ·by_cases e : j = i
    ·rw [e, hq]
    ·exact hb' j (by omega)
   simp only [go_sem]
 have hall := all_ok' (n := a.rules.length) (p := fun i => sameB a.rules[i]! b.rules[i]!) fun j hj => hb' j (by omega)
 rw [hall]
 simp only [go_sem, h, Bool.and_true, List.length_map]
 cases h1 : a.kind == b.kind
 ·simp only [go_sem, Bool.false_and]
 simp only [go_sem]
 refine CallU.free (con_rtexts a.states b.states (by omega)) (by simp only [go_sem]) (by simp only [go_sem, vss]) ?_
 rintro r bx rfl
 cases h2 : sameSs a.states b.states
 ·simp only [go_sem, Bool.false_and]
 simp only [go_sem]
 refine CallU.free (con_rtexts a.places b.places (by omega)) (by simp only [go_sem]) (by simp only [go_sem, vss]) ?_
 rintro r bx rfl
 cases h3 : sameSs a.places b.places
 ·simp only [go_sem, Bool.false_and]
 simp only [go_sem]
 refine CallU.free (con_rtexts a.letters b.letters (by omega)) (by simp only [go_sem]) (by simp only [go_sem, vss]) ?_
 rintro r bx rfl
 cases h4 : sameSs a.letters b.letters
 ·simp only [go_sem, Bool.false_and]
 simp only [go_sem]
 refine CallU.free (con_rsameB a.ranks b.ranks (by have := ha.ranks; omega)) (by simp only [go_sem]) (by simp only [go_sem]) ?_
 rintro r bx rfl
 cases h5 : a.ranks == b.ranks
 ·simp only [go_sem, Bool.false_and]
 cases h6 : a.levels == b.levels
 ·simp only [go_sem, h6, Bool.true_and, Bool.false_and]
 cases h7 : a.age == b.age
 ·simp only [go_sem, h6, h7, Bool.true_and, Bool.false_and]
 simp only [go_sem, h6, h7]
 refine CallU.free hc (by simp only [go_sem]) (by simp only [go_sem]) ?_
 rintro r bx rfl
 simp only [go_sem]
def smallC : Nat -> CV -> Bool
 | 0, _ => false
 | d + 1, v => decide (v.kids.length <= 20) && v.kids.all (smallC d)
theorem small_slim : ∀ (d : Nat) (v : CV), smallC d v = true -> v.Slim /\ v.kids.length <= 20
 | 0, v, h => by cases h
 | d + 1, .mk n k, h => by
  unfold smallC at h
  simp only [Bool.and_eq_true, decide_eq_true_eq, List.all_eq_true] at h
  have h1 : k.length <= 20 := h.1
  exact ⟨.mk _ _ (by omega) fun x hx => (small_slim d x (h.2 x hx)).1, h1⟩
theorem con_lsmall : ∀ (d : Nat) (v : CV), d <= 100 -> v.Ok -> Con Tryz.prog 16 [vV v, vi ((d : Int) - 1)] [] fun r _ => r = vb (smallC d v) := by
 intro d
 induction d with
 | zero =>
  intro v _ hv
  have hl := hv.len
  rw [vV_eq]
  refine Con.intro Tryz.func16 rfl Tryz.ntmps16 Tryz.results16 (by kernel_rfl) (by simp) 0 (by simp) ?_
  have e : smallC 0 v = false := rfl
  rw [e]
  by_cases h : 20 < v.kids.length
  ·simp only [go_sem, h, List.length_map]
  ·simp only [go_sem, h, List.length_map]
 | succ d ih =>
  intro v hd hv
  have hl := hv.len
  rw [vV_eq]
  refine Con.intro Tryz.func16 rfl Tryz.ntmps16 Tryz.results16 (by kernel_rfl) (by simp) 0 (by simp) ?_
  have e : smallC (d + 1) v = (decide (v.kids.length <= 20) && v.kids.all (smallC d)) := rfl
  rw [e]
  by_cases h : 20 < v.kids.length
  ·rw [decide_eq_false (by omega)]
   simp only [go_sem, h, List.length_map, Bool.false_and]
  have hneg : ¬ (((d + 1 : Nat) : Int) - 1 < 0) := by omega
  have hw1 : IntKind.i64.wrap (((d + 1 : Nat) : Int) - 1 - 1) = (d : Int) - 1 := by rw [wrap_in (by omega) (by omega)]; omega
  obtain ⟨q, hq⟩ : ∃ q : Int, ((d + 1 : Nat) : Int) - 1 = q := ⟨_, rfl⟩
  rw [hq] at hneg hw1 ⊢
  rw [decide_eq_true (by omega), Bool.true_and]
  simp only [go_sem, h, hneg, List.length_map]
  refine LoopK.intro (fun i : Nat => ⟨30, [(1, vi q), (2, .pb 0 0), (16, vi v.kids.length), (17, vi i)], [[vi v.n, .sl 0 2 (v.kids.map vV)]]⟩)
   (fun i => v.kids.length - i) (fun i => i <= v.kids.length /\ ∀ j, j < i -> smallC d v.kids[j]! = true) 0 ⟨by omega, fun j hj => by omega⟩ ?_ ?_
  ·simp only [go_sem]
  rintro i ⟨hi, hb⟩
  by_cases hlt : i < v.kids.length
  ·have hw : IntKind.i64.wrap (i + 1) = i + 1 := wrap_in (by omega) (by omega)
   have hg := getvV hlt
   have hc := ih v.kids[i]! (by omega) (hv.kid (mem_bangI hlt))
   rw [vV_eq] at hc
   simp only [go_sem, hlt, hg, hw1, List.length_map]
   refine CallU.free hc (by simp only [go_sem]) (by simp only [go_sem]) ?_
   rintro r bx rfl
   cases hq2 : smallC d v.kids[i]!
   ·have : v.kids.all (smallC d) = false := by rw [List.all_eq_false]; exact ⟨_, mem_bangI hlt, by rw [hq2]; decide⟩
    rw [this]
    simp only [go_sem]
   ·simp only [go_sem, hw]
    refine roundK.intro (i + 1) ⟨by omega, fun j hj => ?_⟩ (by omega) ?_
    ·by_cases e : j = i
     ·rw [e, hq2]
     ·exact hb j (by omega)
    simp only [go_sem]
  ·have : v.kids.all (smallC d) = true := List.all_eq_true.2 fun x hx => by
    obtain ⟨j, hj, rfl⟩ := List.getElem_of_mem hx
    have := hb j (by omega)
    rw [getElem!_pos _ j hj] at this; exact this
   rw [this]
   simp only [go_sem, hlt]
def shortL (l : List ByteArray) : Bool := l.all fun s => decide (s.size <= 200)
theorem con_mshort (l : List ByteArray) (hl : l.length <= 1000000) : Con Tryz.prog 57 [vss l] [] fun r _ => r = vb (shortL l) := by
 refine Con.intro Tryz.func57 rfl Tryz.ntmps57 Tryz.results57 (by kernel_rfl) (by simp) 0 (by simp) ?_
 unfold shortL
 simp only [go_sem, vss]
 refine LoopK.intro (fun i : Nat => ⟨16, [(0, vss l), (3, vi i)], []⟩)
  (fun i => l.length - i) (fun i => i <= l.length /\ ∀ j, j < i -> l[j]!.size <= 200) 0 ⟨by omega, fun j hj => by omega⟩ ?_ ?_
 ·simp only [go_sem, vss]
 rintro i ⟨hi, hb⟩
 by_cases h : i < l.length
 ·have g1 := getStr h
  have hw : IntKind.i64.wrap (i + 1) = i + 1 := wrap_in (by omega) (by omega)
  by_cases hs : 200 < l[i]!.size
  ·have : (l.all fun s => decide (s.size <= 200)) = false := by
    rw [List.all_eq_false]
    exact ⟨_, mem_bangI h, by rw [decide_eq_false (by omega)]; decide⟩
   rw [this]
   simp only [go_sem, vss, h, g1, hs, List.length_map]
  ·simp only [go_sem, vss, h, g1, hs, hw, List.length_map]
   refine roundK.intro (i + 1) ⟨by omega, fun j hj => ?_⟩ (by omega) ?_
   ·by_cases e : j = i
    ·rw [e]; omega
    ·exact hb j (by omega)
   simp only [go_sem]
 ·have : (l.all fun s => decide (s.size <= 200)) = true := List.all_eq_true.2 fun x hx => by
   obtain ⟨j, hj, rfl⟩ := List.getElem_of_mem hx
   have := hb j (by omega)
   rw [getElem!_pos _ j hj] at this; exact decide_eq_true this
  rw [this]
  simp only [go_sem, vss, h, List.length_map]
def fewR (r : RD) : Bool := decide (r.need.length <= 12) && decide (r.give.length <= 12) && decide (r.move.length <= 12) && decide (r.path.length <= 12) && decide (r.next.length <= 12) && decide (r.takes.length <= 12) && decide (r.makes.length <= 12)
def fewM (m : MD) : Bool := decide (m.states.length <= 12) && decide (m.places.length <= 12) && decide (m.letters.length <= 12) && decide (m.ranks.length <= 12) && decide (m.rules.length <= 16) && smallC 5 m.start && m.rules.all fewR && shortL (namesOf m)
theorem con_lfew (m : MD) (hs : m.start.Ok) : Con Tryz.prog 15 [vM m] [] fun r _ => r = vb (fewM m) := by
 have e1 : vM m = .ag [vi m.kind, vss m.states, vss m.places, vss m.letters, vs 0 m.ranks, vi m.levels, vi m.age, .sl 0 14 (m.rules.map vRule), vi m.start.n, .sl 0 2 (m.start.kids.map vV)] := rfl
 rw [e1]
 refine Con.intro Tryz.func15 rfl Tryz.ntmps15 Tryz.results15 (by kernel_rfl) (by simp) 0 (by simp) ?_
 by_cases h0 : 12 < m.states.length
 ·have e : fewM m = false := by
   unfold fewM
   rw [decide_eq_false (show ¬ m.states.length <= 12 by omega)]
   simp only [Bool.false_and]
  rw [e]
  simp only [go_sem, vss, h0, List.length_map]
 by_cases h1 : 12 < m.places.length
 ·have e : fewM m = false := by
   unfold fewM
   rw [decide_eq_false (show ¬ m.places.length <= 12 by omega)]
   simp only [Bool.false_and, Bool.and_false]
  rw [e]
  simp only [go_sem, vss, h0, h1, List.length_map]
 by_cases h2 : 12 < m.letters.length
 ·have e : fewM m = false := by
   unfold fewM
   rw [decide_eq_false (show ¬ m.letters.length <= 12 by omega)]
   simp only [Bool.false_and, Bool.and_false]
  rw [e]
  simp only [go_sem, vss, h0, h1, h2, List.length_map]
 by_cases h3 : 12 < m.ranks.length
 ·have e : fewM m = false := by
   unfold fewM
   rw [decide_eq_false (show ¬ m.ranks.length <= 12 by omega)]
   simp only [Bool.false_and, Bool.and_false]
  rw [e]
  simp only [go_sem, vss, h0, h1, h2, h3, List.length_map]
 by_cases h4 : 16 < m.rules.length
 ·have e : fewM m = false := by
   unfold fewM
   rw [decide_eq_false (show ¬ m.rules.length <= 16 by omega)]
   simp only [Bool.false_and, Bool.and_false]
  rw [e]
  simp only [go_sem, vss, h0, h1, h2, h3, h4, List.length_map]
 have hc := con_lsmall 5 m.start (by omega) hs
 rw [vV_eq, show (((5 : Nat) : Int) - 1) = 4 by rfl] at hc
 simp only [go_sem, vss, h0, h1, h2, h3, h4, List.length_map]
 refine CallU.free hc (by simp only [go_sem]) (by simp only [go_sem]) ?_
 rintro r bx rfl
 cases h5 : smallC 5 m.start
 ·have e : fewM m = false := by
   unfold fewM
   rw [h5]
   simp only [Bool.false_and, Bool.and_false]
  rw [e]
  simp only [go_sem]
 have r1 : roomFor m.states.length 16 := by simp only [roomFor]; omega
 have r2 : roomFor (m.states.length + m.places.length) 16 := by simp only [roomFor]; omega
 have r3 : roomFor (m.states.length + m.places.length + m.letters.length) 16 := by simp only [roomFor]; omega
 have e0 : namesTo m 0 = m.states ++ m.places ++ m.letters := by rw [namesTo_zero]
 simp only [go_sem]
 refine DrawK.meet ⟨104, [(1, .pb 0 0), (2, vb false), (3, .sl 2752 1 ((namesTo m 0).map vStr))], [[vi m.kind, .sl 0 1 (m.states.map vStr), .sl 0 1 (m.places.map vStr), .sl 0 1 (m.letters.map vStr), vs 0 m.ranks, vi m.levels, vi m.age, .sl 0 14 (m.rules.map vRule), vi m.start.n, .sl 0 2 (m.start.kids.map vV)]]⟩ ?_ ?_
 ·refine DrawK.tree namesTree mixed (by kernel_rfl) ?_
  unfold namesTree
  rw [e0, List.map_append, List.map_append]
  repeat' (first | with_reducible apply andK_mk | simp only [go_sem, List.length_map, List.length_append, r1, r2, r3])
 simp only [go_sem]
 have hno : (namesOf m).length <= 100 := by unfold namesOf; simp only [List.length_append, List.length_map]; omega
 refine LoopK.intro (fun i : Nat => ⟨104, [(2, vb false), (3, .sl 2752 1 ((namesTo m i).map vStr)), (50, .sl 0 14 (m.rules.map vRule)), (51, vi m.rules.length), (52, vi i)], [vi m.kind, .sl 0 1 (m.states.map vStr), .sl 0 1 (m.places.map vStr), .sl 0 1 (m.letters.map vStr), vs 0 m.ranks, vi m.levels, vi m.age, .sl 0 14 (m.rules.map vRule), vi m.start.n, .sl 0 2 (m.start.kids.map vV)] :: Rk 14 i⟩)
  (fun i => m.rules.length - i) (fun i => i <= m.rules.length /\ ∀ j, j < i -> fewR m.rules[j]! = true) 0 ⟨by omega, fun j hj => by omega⟩ ?_ ?_
 ·simp only [go_sem]
  all_goals exact leB_self _
 rintro i ⟨hi, hb⟩
 have hn := namesTo_len (m := m) (i := i)
 have hB := Rk_len 14 i
 have n0 := fun L : List (List AV) => app_at0 (L := L) hB
 have s0 := fun (L : List (List AV)) z => app_set0 (L := L) (z := z) hB
 by_cases hlt : i < m.rules.length
 ·have hg := getRule hlt
  have hw : IntKind.i64.wrap (i + 1) = i + 1 := wrap_in (by omega) (by omega)
  have e := namesTo_succ hlt
  have hr : roomFor ((namesTo m i).length + 1) 16 := by simp only [roomFor]; omega
  have hbad : fewR m.rules[i]! = false -> fewM m = false := fun h => by
   have : m.rules.all fewR = false := by rw [List.all_eq_false]; exact ⟨_, mem_bangI hlt, by rw [h]; decide⟩
   unfold fewM
   rw [this]
   simp only [Bool.false_and, Bool.and_false]
  by_cases k0 : 12 < m.rules[i]!.need.length
  ·rw [hbad (by unfold fewR; rw [decide_eq_false (show ¬ m.rules[i]!.need.length <= 12 by omega)]; simp only [Bool.false_and])]
   simp only [go_sem, hlt, hg, hB, n0, s0, k0, List.length_map]
  by_cases k1 : 12 < m.rules[i]!.give.length
  ·rw [hbad (by unfold fewR; rw [decide_eq_false (show ¬ m.rules[i]!.give.length <= 12 by omega)]; simp only [Bool.false_and, Bool.and_false])]
   simp only [go_sem, hlt, hg, hB, n0, s0, k0, k1, List.length_map]
  by_cases k2 : 12 < m.rules[i]!.move.length
  ·rw [hbad (by unfold fewR; rw [decide_eq_false (show ¬ m.rules[i]!.move.length <= 12 by omega)]; simp only [Bool.false_and, Bool.and_false])]
   simp only [go_sem, hlt, hg, hB, n0, s0, k0, k1, k2, List.length_map]
  by_cases k3 : 12 < m.rules[i]!.path.length
  ·rw [hbad (by unfold fewR; rw [decide_eq_false (show ¬ m.rules[i]!.path.length <= 12 by omega)]; simp only [Bool.false_and, Bool.and_false])]
   simp only [go_sem, hlt, hg, hB, n0, s0, k0, k1, k2, k3, List.length_map]
  by_cases k4 : 12 < m.rules[i]!.next.length
  ·rw [hbad (by unfold fewR; rw [decide_eq_false (show ¬ m.rules[i]!.next.length <= 12 by omega)]; simp only [Bool.false_and, Bool.and_false])]
   simp only [go_sem, hlt, hg, hB, n0, s0, k0, k1, k2, k3, k4, List.length_map]
  by_cases k5 : 12 < m.rules[i]!.takes.length
  ·rw [hbad (by unfold fewR; rw [decide_eq_false (show ¬ m.rules[i]!.takes.length <= 12 by omega)]; simp only [Bool.false_and, Bool.and_false])]
   simp only [go_sem, hlt, hg, hB, n0, s0, k0, k1, k2, k3, k4, k5, List.length_map]
  by_cases k6 : 12 < m.rules[i]!.makes.length
  ·rw [hbad (by unfold fewR; rw [decide_eq_false (show ¬ m.rules[i]!.makes.length <= 12 by omega)]; simp only [Bool.and_false])]
   simp only [go_sem, hlt, hg, hB, n0, s0, k0, k1, k2, k3, k4, k5, k6, List.length_map]
  have hgood : fewR m.rules[i]! = true := by
   unfold fewR
   rw [decide_eq_true (show m.rules[i]!.need.length <= 12 by omega), decide_eq_true (show m.rules[i]!.give.length <= 12 by omega), decide_eq_true (show m.rules[i]!.move.length <= 12 by omega), decide_eq_true (show m.rules[i]!.path.length <= 12 by omega), decide_eq_true (show m.rules[i]!.next.length <= 12 by omega), decide_eq_true (show m.rules[i]!.takes.length <= 12 by omega), decide_eq_true (show m.rules[i]!.makes.length <= 12 by omega)]; rfl
  simp only [go_sem, hlt, hg, hB, n0, s0, k0, k1, k2, k3, k4, k5, k6, hw, hr, List.length_map]
  refine roundK.intro (i + 1) ⟨by omega, fun j hj => ?_⟩ (by omega) ?_
  ·by_cases e : j = i
   ·rw [e, hgood]
   ·exact hb j (by omega)
  simp only [go_sem, e, List.map_append, List.map_cons, List.map_nil, Rk_succ]
  exact leB_RkA ⟨leC_any _ 14 rfl, trivial⟩
 obtain rfl : i = m.rules.length := by omega
 have hall : m.rules.all fewR = true := List.all_eq_true.2 fun x hx => by
  obtain ⟨j, hj, rfl⟩ := List.getElem_of_mem hx
  have := hb j hj
  rw [getElem!_pos _ j hj] at this; exact this
 have e : fewM m = shortL (namesOf m) := by
  unfold fewM
  rw [decide_eq_true (show m.states.length <= 12 by omega), decide_eq_true (show m.places.length <= 12 by omega), decide_eq_true (show m.letters.length <= 12 by omega), decide_eq_true (show m.ranks.length <= 12 by omega), decide_eq_true (show m.rules.length <= 16 by omega), h5, hall]
  simp only [Bool.true_and]
 rw [e, namesTo_all]
 have hsh := con_mshort (namesOf m) (by omega)
 simp only [go_sem, hlt]
 refine CallU.freeze hsh (by simp only [go_sem]) (by simp only [go_sem, vss]) ?_
 rintro r bx rfl
 simp only [go_sem]
theorem few_len {m : MD} (h : fewM m = true) : LenM m /\ m.start.Slim /\ m.start.kids.length <= 20 /\ m.rules.length <= 16 := by
 unfold fewM at h
 simp only [Bool.and_eq_true, decide_eq_true_eq, List.all_eq_true] at h
 obtain ⟨⟨⟨⟨⟨⟨⟨h1, h2⟩, h3⟩, h4⟩, h5⟩, h6⟩, h7⟩, h8⟩ := h
 have hsl := small_slim _ _ h6
 refine ⟨⟨by unfold namesOf; simp only [List.length_append, List.length_map]; omega, fun s hs => ?_, by omega, fun r hr => ?_, hsl.1.ok⟩, hsl.1, hsl.2, h5⟩
 ·have := List.all_eq_true.1 h8 s hs
  have := of_decide_eq_true this
  omega
 ·have := h7 r hr
  unfold fewR at this
  simp only [Bool.and_eq_true, decide_eq_true_eq] at this
  exact ⟨⟨by omega, by omega, by omega, by omega, by omega, by omega, by omega⟩, by omega, by omega⟩
def meetT (T : St -> Prop) (σ : St) : Prop := ∃ τ, T τ /\ σ.le τ
theorem meetT.intro {T : St -> Prop} {σ : St} (τ : St) (h : T τ) (hl : σ.le τ) : meetT T σ := ⟨τ, h, hl⟩
theorem DrawK.meetE {P : Program} {ops : Array Oper} {σ : St} {K : St -> Prop} (T : St -> Prop) (h : DrawK P ops σ fun σ' => meetT T σ') (hk : ∀ τ, T τ -> K τ) : DrawK P ops σ K :=
 fun G0 w0 G a w id Q t hs hQ => h G0 w0 G a w id Q t hs fun _ G' a' w' ⟨τ, hT, hl⟩ h' => hQ τ G' a' w' (hk τ hT) (h'.le hl)
def TypeOk (d : Nat) (t : TD) : Prop := (∀ n, rightT (n + d) t = true) /\ t.Ok
def TypeCon (l : List Int) (d : Nat) (s : DS) : Prop :=
 Con Tryz.prog 63 [.pb 0 0, vi d, vb false] [deckA l s] fun r b => ∃ t s', TypeOk d t /\ Dk l s' /\ r = vT t /\ b = [deckA l s']
theorem seven_at {j : Nat} (h : j < 7) : [vi 1, vi 2, vi 3, vi 4, vi 5, vi 6, vi 7][j]? = some (vi (j + 1)) := by
 match j, h with
 | 0, _ => rfl
 | 1, _ => rfl
 | 2, _ => rfl
 | 3, _ => rfl
 | 4, _ => rfl
 | 5, _ => rfl
 | 6, _ => rfl
theorem ok_leaf (k s : Int) (r : List Int) (h : r.length <= 1000000) : (TD.mk k s r []).Ok := .mk _ _ _ _ h (by simp) fun x hx => by cases hx
theorem typeOk_nat (d : Nat) (hd : 1 <= d) : TypeOk d (.mk 1 0 [] []) := by
 refine ⟨fun n => ?_, ok_leaf _ _ _ (by simp)⟩
 obtain ⟨m, hm⟩ : ∃ m, n + d = m + 1 := ⟨n + d - 1, by omega⟩
 rw [hm]
 unfold rightT
 simp [TD.kind, TD.size, TD.parts, TD.ranks]
theorem typeOk_label (d : Nat) (hd : 1 <= d) {k s : Int} (hk : k = 2 \/ k = 6) (hs : 1 <= s /\ s <= 16) : TypeOk d (.mk k s [] []) := by
 refine ⟨fun n => ?_, ok_leaf _ _ _ (by simp)⟩
 obtain ⟨m, hm⟩ : ∃ m, n + d = m + 1 := ⟨n + d - 1, by omega⟩
 rw [hm]
 unfold rightT
 rcases hk with rfl | rfl <;> simp [TD.kind, TD.size, TD.parts, TD.ranks, hs.1, hs.2]
theorem typeOk_prio (d : Nat) (hd : 1 <= d) {r : List Int} (hr : r.length = 2) (h : ∀ x ∈ r, 0 <= x /\ x <= 1) : TypeOk d (.mk 7 2 r []) := by
 refine ⟨fun n => ?_, ok_leaf _ _ _ (by omega)⟩
 obtain ⟨m, hm⟩ : ∃ m, n + d = m + 1 := ⟨n + d - 1, by omega⟩
 have hany : r.any badRank = false := by
  rw [List.any_eq_false]
  intro x hx
  have := h x hx
  unfold badRank
  rw [decide_eq_false (by omega), decide_eq_false (by omega)]; decide
 rw [hm]
 unfold rightT rankedL
 simp [TD.kind, TD.size, TD.parts, TD.ranks, hr, hany]
theorem typeOk_prod {l : List TD} (h1 : 1 <= l.length /\ l.length <= 8) (h : ∀ t ∈ l, TypeOk 1 t) : TypeOk 2 (.mk 3 0 [] l) :=
 ⟨fun n => right_prod (n + 1) h1 fun t ht => (h t ht).1 n, .mk _ _ _ _ (by simp) (by omega) fun t ht => (h t ht).2⟩
theorem typeOk_list {k : Int} {t : TD} (hk : k = 4 \/ k = 5) (h : TypeOk 1 t) : TypeOk 2 (.mk k 0 [] [t]) :=
 ⟨fun n => right_bag (n + 1) hk (h.1 n), .mk _ _ _ _ (by simp) (by simp) fun x hx => by rw [List.mem_singleton] at hx; subst hx; exact h.2⟩
def typeTree : Tr := .front 0 (.front 2 (.front 3 (.front 5 (.alt (.one 1 (.one 4 (.one 6 (.one 7 (.one 8 (.front 9 (.one 10 .done))))))) (.one 4 (.alt (.one 1 (.one 6 (.one 7 (.one 8 (.front 9 (.one 10 .done)))))) (.one 6 (.alt (.one 1 (.one 7 (.one 8 (.front 9 (.one 10 .done))))) (.one 7 (.one 1 (.one 8 (.front 9 (.one 10 .done)))))))))))))
theorem vT_one (k s : Int) (t : TD) : leV (.ag [vi k, vi s, .nil, .sl 0 4 [.ag [vi t.kind, vi t.size, vs 0 t.ranks, .sl 0 4 (t.parts.map vT)]]]) (vT (.mk k s [] [t])) := by
 rw [<- vT_eq]
 exact vT_parts k s [t]
theorem vT_ranks (k s : Int) (r : List Int) : leV (.ag [vi k, vi s, vs 0 r, .nil]) (vT (.mk k s r [])) := by
 rw [vT_eq]
 exact leV_ag ⟨leV_refl _, leV_refl _, leV_refl _, leV_nil 0 4, trivial⟩
theorem TypeCon.mk {l : List Int} {d : Nat} {s : DS} (h : Con Tryz.prog 63 [.pb 0 0, vi d, vb false] [deckA l s] fun r b => ∃ t s', TypeOk d t /\ Dk l s' /\ leV (r.freeze fun _ => true) (vT t) /\ b = [deckA l s']) : TypeCon l d s :=
 (h.freezeB fun _ => true).weak fun r b ⟨r1, b1, ⟨x, s', h1, h2, h3, h4⟩, h7, h8⟩ => by
  subst h4; subst h7; subst h8
  exact ⟨vT x, ⟨x, s', h1, h2, rfl, rfl⟩, h3⟩
theorem con_dType3 (l : List Int) (hrec : ∀ s, Dk l s -> TypeCon l 1 s) (s : DS) (h : Dk l s) (e7 : nextV l s 7 = 2) : Con Tryz.prog 63 [.pb 0 0, vi (2 : Nat), vb false] [deckA l s] fun r b => ∃ t s', TypeOk 2 t /\ Dk l s' /\ leV (r.freeze fun _ => true) (vT t) /\ b = [deckA l s'] := by
 refine Con.intro Tryz.func63 rfl Tryz.ntmps63 Tryz.results63 (by kernel_rfl) (by simp) 1 (by simp) ?_
 obtain ⟨D, hD⟩ : ∃ D : Int, ((2 : Nat) : Int) = D := ⟨_, rfl⟩
 rw [hD]
 unfold TypeCon at hrec
 have hD1 : ¬ D <= 1 := by omega
 have hw1 : IntKind.i64.wrap (D - 1) = 1 := by rw [wrap_in (by omega) (by omega)]; omega
 have hd1 : Dk l (nextS l s 7) := nextS_dk h
 have hg := seven_at (show 2 < 7 by omega)
 simp only [go_sem] at hg
 simp only [go_sem]
 refine CallU.boxes (i := 0) (is := []) (bx0 := [deckA l s]) (con_dNext l s 7 h) (by simp only [go_sem]) (by simp only [go_sem]) (by simp only [go_sem]) (by simp only [go_sem]) (by simp only [go_sem]) ?_
 rintro r b ⟨rfl, rfl⟩
 generalize nextS l s 7 = s1 at hd1 ⊢
 simp only [go_sem, e7, hD1]
 have hn3 := nextV_lt (l := l) (s := s1) (n := 3) (by omega)
 have hd3 : Dk l (nextS l s1 3) := nextS_dk hd1
 have hw3 : IntKind.i64.wrap (1 + nextV l s1 3) = 1 + nextV l s1 3 := wrap_in (by omega) (by omega)
 refine CallU.boxes (i := 0) (is := []) (bx0 := [deckA l s1]) (con_dNext l s1 3 hd1) (by simp only [go_sem]) (by simp only [go_sem]) (by simp only [go_sem]) (by simp only [go_sem]) (by simp only [go_sem]) ?_
 rintro r b ⟨rfl, rfl⟩
 simp only [go_sem, hw3]
 generalize nextS l s1 3 = s3 at hd3 ⊢
 obtain ⟨K, hK⟩ : ∃ K : Nat, 1 + nextV l s1 3 = (K : Int) := ⟨(1 + nextV l s1 3).toNat, by omega⟩
 rw [hK]
 refine LoopK.intro (fun p : List TD × DS => ⟨105, [(0, .pb 0 0), (1, vi D), (2, vb false), (6, .pb 1 0), (9, .pb 2 0), (10, vi ((K - p.1.length : Nat) : Int))], [deckA l p.2, [vi 0, vi 0, .nil, .nil], [vi 3, vi 0, .nil, .sl 5184 4 (p.1.map vT)]]⟩)
  (fun p => K - p.1.length) (fun p => p.1.length <= K /\ Dk l p.2 /\ ∀ t ∈ p.1, TypeOk 1 t) ([], s3) ⟨by simp, hd3, fun t ht => by cases ht⟩ ?_ ?_
 ·simp only [go_sem, List.map_nil, List.length_nil, Nat.sub_zero]
 rintro ⟨ts, s4⟩ ⟨h1, h2, h3⟩
 simp only at h1 h2 h3
 by_cases hlt : ts.length < K
 ·have hgt : (0 : Int) < ((K - ts.length : Nat) : Int) := by omega
  have hr4 : roomFor (ts.length + 1) 64 := by simp only [roomFor]; omega
  simp only [go_sem, hgt]
  refine DrawK.meetE (fun τ => ∃ t s', TypeOk 1 t /\ Dk l s' /\ τ = ⟨105, [(0, .pb 0 0), (1, vi D), (2, vb false), (6, .pb 1 0), (9, .pb 2 0), (10, vi ((K - ts.length : Nat) : Int))], [deckA l s', [vi 0, vi 0, .nil, .nil], [vi 3, vi 0, .nil, .sl 5184 4 ((ts ++ [t]).map vT)]]⟩) ?_ ?_
  ·refine DrawK.tree typeTree mixed (by kernel_rfl) ?_
   unfold typeTree
   simp only [go_sem, hw1]
   have e : ∀ t : TD, (ts ++ [t]).map vT = ts.map vT ++ [.ag [vi t.kind, vi t.size, vs 0 t.ranks, .sl 0 4 (t.parts.map vT)]] := fun t => by rw [List.map_append, List.map_cons, List.map_nil, vT_eq]
   simp only [go_sem]
   refine andK_mk ?_ ?_
   ·refine CallU.boxes (i := 0) (is := []) (bx0 := [deckA l s4]) (hrec s4 h2) (by simp only [go_sem]) (by simp only [go_sem]) (by simp only [go_sem]) (by simp only [go_sem]) (by simp only [go_sem]) ?_
    rintro r b ⟨t, s', ht, hd', rfl, rfl⟩
    rw [vT_eq]
    simp only [go_sem, hr4, List.length_map]
    refine meetT.intro _ ⟨t, s', ht, hd', rfl⟩ ?_
    simp only [go_sem, e]
   simp only [go_sem, hw1]
   refine andK_mk ?_ ?_
   ·refine CallU.boxes (i := 0) (is := []) (bx0 := [deckA l s4]) (hrec s4 h2) (by simp only [go_sem]) (by simp only [go_sem]) (by simp only [go_sem]) (by simp only [go_sem]) (by simp only [go_sem]) ?_
    rintro r b ⟨t, s', ht, hd', rfl, rfl⟩
    rw [vT_eq]
    simp only [go_sem, hr4, List.length_map]
    refine meetT.intro _ ⟨t, s', ht, hd', rfl⟩ ?_
    simp only [go_sem, e]
   simp only [go_sem, hw1]
   refine CallU.boxes (i := 0) (is := []) (bx0 := [deckA l s4]) (hrec s4 h2) (by simp only [go_sem]) (by simp only [go_sem]) (by simp only [go_sem]) (by simp only [go_sem]) (by simp only [go_sem]) ?_
   rintro r b ⟨t, s', ht, hd', rfl, rfl⟩
   rw [vT_eq]
   simp only [go_sem, hr4, List.length_map]
   refine andK_mk ?_ ?_
   ·refine meetT.intro _ ⟨t, s', ht, hd', rfl⟩ ?_
    simp only [go_sem, e]
   simp only [go_sem, hr4, List.length_map]
   refine meetT.intro _ ⟨t, s', ht, hd', rfl⟩ ?_
   simp only [go_sem, e]
  rintro τ ⟨t, s', ht, hd', rfl⟩
  have hw : IntKind.i64.wrap (((K - ts.length : Nat) : Int) - 1) = ((K - (ts ++ [t]).length : Nat) : Int) := by rw [List.length_append, List.length_singleton, wrap_in (by omega) (by omega)]; omega
  simp only [go_sem, hw]
  exact roundK.intro (ts ++ [t], s') ⟨by show (ts ++ [t]).length <= K; rw [List.length_append, List.length_singleton]; omega, hd', fun x hx => by
   rcases List.mem_append.1 hx with hx | hx
   ·exact h3 x hx
   ·rw [List.mem_singleton] at hx; subst hx; exact ht⟩ (by show K - (ts ++ [t]).length < K - ts.length; rw [List.length_append, List.length_singleton]; omega) (by simp only [go_sem])
 ·have ei : ts.length = K := by omega
  have hgt : ¬ (0 : Int) < ((K - ts.length : Nat) : Int) := by omega
  simp only [go_sem, hgt]
  exact ⟨.mk 3 0 [] ts, _, typeOk_prod (by omega) h3, h2, vT_parts _ _ _, rfl⟩
theorem con_dTypeS (l : List Int) (d : Nat) (hd : d = 1 \/ d = 2) (ih : d = 2 -> ∀ s, Dk l s -> TypeCon l 1 s) (s : DS) (h : Dk l s) : TypeCon l d s := by
 refine TypeCon.mk ?_
 by_cases hno : d = 2 /\ nextV l s 7 = 2
 ·obtain ⟨rfl, e7⟩ := hno
  exact con_dType3 l (ih rfl) s h e7
 refine Con.intro Tryz.func63 rfl Tryz.ntmps63 Tryz.results63 (by kernel_rfl) (by simp) 1 (by simp) ?_
 have h1d : 1 <= d := by omega
 obtain ⟨D, hD⟩ : ∃ D : Int, (d : Int) = D := ⟨_, rfl⟩
 rw [hD]
 have hn := nextV_lt (l := l) (s := s) (n := 7) (by omega)
 have hd1 : Dk l (nextS l s 7) := nextS_dk h
 simp only [go_sem]
 refine CallU.boxes (i := 0) (is := []) (bx0 := [deckA l s]) (con_dNext l s 7 h) (by simp only [go_sem]) (by simp only [go_sem]) (by simp only [go_sem]) (by simp only [go_sem]) (by simp only [go_sem]) ?_
 rintro r b ⟨rfl, rfl⟩
 obtain ⟨j, ej, hj⟩ : ∃ j : Nat, nextV l s 7 = j /\ j < 7 := ⟨(nextV l s 7).toNat, by omega, by omega⟩
 generalize nextS l s 7 = s1 at hd1 ⊢
 have hn2 := nextV_lt (l := l) (s := s1) (n := 2) (by omega)
 have hd2 : Dk l (nextS l s1 2) := nextS_dk hd1
 have hw2 : IntKind.i64.wrap (2 + nextV l s1 2) = 2 + nextV l s1 2 := wrap_in (by omega) (by omega)
 have hg := seven_at hj
 simp only [go_sem] at hg
 by_cases hD1 : D <= 1
 ·rcases (show j = 0 \/ j = 1 \/ j = 2 \/ j = 3 \/ j = 4 \/ j = 5 \/ j = 6 by omega) with rfl | rfl | rfl | rfl | rfl | rfl | rfl
  ·simp only [go_sem, ej, hg, hD1]
   exact ⟨.mk 1 0 [] [], _, typeOk_nat d h1d, hd1, vT_nil _ _, rfl⟩
  ·simp only [go_sem, ej, hg, hD1]
   refine CallU.boxes (i := 0) (is := []) (bx0 := [deckA l s1]) (con_dNext l s1 2 hd1) (by simp only [go_sem]) (by simp only [go_sem]) (by simp only [go_sem]) (by simp only [go_sem]) (by simp only [go_sem]) ?_
   rintro r b ⟨rfl, rfl⟩
   simp only [go_sem, hw2]
   exact ⟨.mk 2 (2 + nextV l s1 2) [] [], _, typeOk_label d h1d (.inl rfl) (by omega), nextS_dk hd1, vT_nil _ _, rfl⟩
  ·simp only [go_sem, ej, hg, hD1]
   refine CallU.boxes (i := 0) (is := []) (bx0 := [deckA l s1]) (con_dNext l s1 2 hd1) (by simp only [go_sem]) (by simp only [go_sem]) (by simp only [go_sem]) (by simp only [go_sem]) (by simp only [go_sem]) ?_
   rintro r b ⟨rfl, rfl⟩
   obtain ⟨j2, ej2, hj2⟩ : ∃ j2 : Nat, nextV l s1 2 = j2 /\ j2 < 2 := ⟨(nextV l s1 2).toNat, by omega, by omega⟩
   have hg2 := seven_at (show j2 < 7 by omega)
   simp only [go_sem] at hg2
   generalize nextS l s1 2 = s2 at hd2 ⊢
   rcases (show j2 = 0 \/ j2 = 1 by omega) with rfl | rfl
   ·simp only [go_sem, ej2, hg2]
    exact ⟨.mk 1 0 [] [], _, typeOk_nat d h1d, hd2, vT_nil _ _, rfl⟩
   ·simp only [go_sem, ej2, hg2]
    have hn3 := nextV_lt (l := l) (s := s2) (n := 2) (by omega)
    have hw3 : IntKind.i64.wrap (2 + nextV l s2 2) = 2 + nextV l s2 2 := wrap_in (by omega) (by omega)
    refine CallU.boxes (i := 0) (is := []) (bx0 := [deckA l s2]) (con_dNext l s2 2 hd2) (by simp only [go_sem]) (by simp only [go_sem]) (by simp only [go_sem]) (by simp only [go_sem]) (by simp only [go_sem]) ?_
    rintro r b ⟨rfl, rfl⟩
    simp only [go_sem, hw3]
    exact ⟨.mk 2 (2 + nextV l s2 2) [] [], _, typeOk_label d h1d (.inl rfl) (by omega), nextS_dk hd2, vT_nil _ _, rfl⟩
  ·simp only [go_sem, ej, hg, hD1]
   refine CallU.boxes (i := 0) (is := []) (bx0 := [deckA l s1]) (con_dNext l s1 2 hd1) (by simp only [go_sem]) (by simp only [go_sem]) (by simp only [go_sem]) (by simp only [go_sem]) (by simp only [go_sem]) ?_
   rintro r b ⟨rfl, rfl⟩
   obtain ⟨j2, ej2, hj2⟩ : ∃ j2 : Nat, nextV l s1 2 = j2 /\ j2 < 2 := ⟨(nextV l s1 2).toNat, by omega, by omega⟩
   have hg2 := seven_at (show j2 < 7 by omega)
   simp only [go_sem] at hg2
   generalize nextS l s1 2 = s2 at hd2 ⊢
   rcases (show j2 = 0 \/ j2 = 1 by omega) with rfl | rfl
   ·simp only [go_sem, ej2, hg2]
    exact ⟨.mk 1 0 [] [], _, typeOk_nat d h1d, hd2, vT_nil _ _, rfl⟩
   ·simp only [go_sem, ej2, hg2]
    have hn3 := nextV_lt (l := l) (s := s2) (n := 2) (by omega)
    have hw3 : IntKind.i64.wrap (2 + nextV l s2 2) = 2 + nextV l s2 2 := wrap_in (by omega) (by omega)
    refine CallU.boxes (i := 0) (is := []) (bx0 := [deckA l s2]) (con_dNext l s2 2 hd2) (by simp only [go_sem]) (by simp only [go_sem]) (by simp only [go_sem]) (by simp only [go_sem]) (by simp only [go_sem]) ?_
    rintro r b ⟨rfl, rfl⟩
    simp only [go_sem, hw3]
    exact ⟨.mk 2 (2 + nextV l s2 2) [] [], _, typeOk_label d h1d (.inl rfl) (by omega), nextS_dk hd2, vT_nil _ _, rfl⟩
  ·simp only [go_sem, ej, hg, hD1]
   refine CallU.boxes (i := 0) (is := []) (bx0 := [deckA l s1]) (con_dNext l s1 2 hd1) (by simp only [go_sem]) (by simp only [go_sem]) (by simp only [go_sem]) (by simp only [go_sem]) (by simp only [go_sem]) ?_
   rintro r b ⟨rfl, rfl⟩
   obtain ⟨j2, ej2, hj2⟩ : ∃ j2 : Nat, nextV l s1 2 = j2 /\ j2 < 2 := ⟨(nextV l s1 2).toNat, by omega, by omega⟩
   have hg2 := seven_at (show j2 < 7 by omega)
   simp only [go_sem] at hg2
   generalize nextS l s1 2 = s2 at hd2 ⊢
   rcases (show j2 = 0 \/ j2 = 1 by omega) with rfl | rfl
   ·simp only [go_sem, ej2, hg2]
    exact ⟨.mk 1 0 [] [], _, typeOk_nat d h1d, hd2, vT_nil _ _, rfl⟩
   ·simp only [go_sem, ej2, hg2]
    have hn3 := nextV_lt (l := l) (s := s2) (n := 2) (by omega)
    have hw3 : IntKind.i64.wrap (2 + nextV l s2 2) = 2 + nextV l s2 2 := wrap_in (by omega) (by omega)
    refine CallU.boxes (i := 0) (is := []) (bx0 := [deckA l s2]) (con_dNext l s2 2 hd2) (by simp only [go_sem]) (by simp only [go_sem]) (by simp only [go_sem]) (by simp only [go_sem]) (by simp only [go_sem]) ?_
    rintro r b ⟨rfl, rfl⟩
    simp only [go_sem, hw3]
    exact ⟨.mk 2 (2 + nextV l s2 2) [] [], _, typeOk_label d h1d (.inl rfl) (by omega), nextS_dk hd2, vT_nil _ _, rfl⟩
  ·simp only [go_sem, ej, hg, hD1]
   exact ⟨.mk 6 2 [] [], _, typeOk_label d h1d (.inr rfl) (by omega), hd1, vT_nil _ _, rfl⟩
  ·simp only [go_sem, ej, hg, hD1]
   refine CallU.boxes (i := 0) (is := []) (bx0 := [deckA l s1]) (con_dSmallF l s1 2 1 hd1 (by omega) (by omega)) (by simp only [go_sem]) (by simp only [go_sem]) (by simp only [go_sem]) (by simp only [go_sem]) (by simp only [go_sem]) ?_
   rintro r b ⟨rfl, rfl⟩
   simp only [go_sem]
   exact ⟨.mk 7 2 (smV l s1 1 2) [], _, typeOk_prio d h1d (smV_len 2) (smV_low (by omega) 2), smS_dk hd1 2, vT_ranks _ _ _, rfl⟩
 ·have hw1 : IntKind.i64.wrap (D - 1) = 1 := by rw [wrap_in (by omega) (by omega)]; omega
  have e2 : d = 2 := by omega
  have hrec := ih e2
  unfold TypeCon at hrec
  subst e2
  rcases (show j = 0 \/ j = 1 \/ j = 2 \/ j = 3 \/ j = 4 \/ j = 5 \/ j = 6 by omega) with rfl | rfl | rfl | rfl | rfl | rfl | rfl
  ·simp only [go_sem, ej, hg, hD1]
   exact ⟨.mk 1 0 [] [], _, typeOk_nat 2 h1d, hd1, vT_nil _ _, rfl⟩
  ·simp only [go_sem, ej, hg, hD1]
   refine CallU.boxes (i := 0) (is := []) (bx0 := [deckA l s1]) (con_dNext l s1 2 hd1) (by simp only [go_sem]) (by simp only [go_sem]) (by simp only [go_sem]) (by simp only [go_sem]) (by simp only [go_sem]) ?_
   rintro r b ⟨rfl, rfl⟩
   simp only [go_sem, hw2]
   exact ⟨.mk 2 (2 + nextV l s1 2) [] [], _, typeOk_label 2 h1d (.inl rfl) (by omega), nextS_dk hd1, vT_nil _ _, rfl⟩
  ·exact absurd ⟨rfl, by omega⟩ hno
  ·simp only [go_sem, ej, hg, hD1, hw1]
   refine CallU.boxes (i := 0) (is := []) (bx0 := [deckA l s1]) (hrec s1 hd1) (by simp only [go_sem]) (by simp only [go_sem]) (by simp only [go_sem]) (by simp only [go_sem]) (by simp only [go_sem]) ?_
   rintro r b ⟨t, s', ht, hd', rfl, rfl⟩
   rw [vT_eq]
   simp only [go_sem]
   exact ⟨.mk 4 0 [] [t], _, typeOk_list (by omega) ht, hd', vT_one _ _ _, rfl⟩
  ·simp only [go_sem, ej, hg, hD1, hw1]
   refine CallU.boxes (i := 0) (is := []) (bx0 := [deckA l s1]) (hrec s1 hd1) (by simp only [go_sem]) (by simp only [go_sem]) (by simp only [go_sem]) (by simp only [go_sem]) (by simp only [go_sem]) ?_
   rintro r b ⟨t, s', ht, hd', rfl, rfl⟩
   rw [vT_eq]
   simp only [go_sem]
   exact ⟨.mk 5 0 [] [t], _, typeOk_list (by omega) ht, hd', vT_one _ _ _, rfl⟩
  ·simp only [go_sem, ej, hg, hD1]
   exact ⟨.mk 6 2 [] [], _, typeOk_label 2 h1d (.inr rfl) (by omega), hd1, vT_nil _ _, rfl⟩
  ·simp only [go_sem, ej, hg, hD1]
   refine CallU.boxes (i := 0) (is := []) (bx0 := [deckA l s1]) (con_dSmallF l s1 2 1 hd1 (by omega) (by omega)) (by simp only [go_sem]) (by simp only [go_sem]) (by simp only [go_sem]) (by simp only [go_sem]) (by simp only [go_sem]) ?_
   rintro r b ⟨rfl, rfl⟩
   simp only [go_sem]
   exact ⟨.mk 7 2 (smV l s1 1 2) [], _, typeOk_prio 2 h1d (smV_len 2) (smV_low (by omega) 2), smS_dk hd1 2, vT_ranks _ _ _, rfl⟩
theorem con_dTypeF (l : List Int) (s : DS) (h : Dk l s) : TypeCon l 2 s :=
 con_dTypeS l 2 (.inr rfl) (fun _ s h => con_dTypeS l 1 (.inl rfl) (fun e => by omega) s h) s h
theorem loose_kids {l : List Int} {d : Nat} {s : DS} {t : TD} {most : Int} (hr : rightT d t = true) (hm : 0 <= most /\ most <= 100) : (looseP l d s t most).1.kids.length <= 1000 := by
 cases d with
 | zero => simp [rightT] at hr
 | succ d =>
  unfold looseP
  split
  ·exact Nat.zero_le _
  ·split
   ·exact Nat.zero_le _
   ·split
    ·have := wdV_len (l := l) (s := s) (letters := t.size) (most := most) hm.1
     show ((wdV l s t.size most).map _).length <= 1000
     rw [List.length_map]; omega
    ·split
     ·rename_i h3
      have hp : t.parts.length <= 8 := by
       rw [rightT] at hr
       by_cases hb : 0 < t.ranks.length /\ t.kind ≠ 7
       ·rw [if_pos hb] at hr; cases hr
       ·rw [if_neg hb, if_neg (show ¬ t.kind = 1 by omega), if_neg (show ¬ (t.kind = 2 \/ t.kind = 6) by omega), if_neg (show ¬ t.kind = 7 by omega), if_pos h3] at hr
        simp only [Bool.and_eq_true, decide_eq_true_eq] at hr
        exact hr.1.2
      show (dealN _ s t.parts.length).1.length <= 1000
      rw [dealN_len]; omega
     ·split
      ·have := nextV_lt (l := l) (s := s) (n := 4) (by omega)
       exact treeP_len (by omega)
      ·have hn := nextV_lt (l := l) (s := s) (n := most + 1) (by omega)
       show (dealN _ _ (nextV l s (most + 1)).toNat).1.length <= 1000
       rw [dealN_len]; omega
theorem sort_kids {t : TD} {v : CV} (h : v.kids.length <= 1000) : (sortF t v).1.kids.length <= 1000 := by
 unfold sortF
 split
 ·exact Nat.zero_le _
 ·split
  ·rw [srt_eq]
   show (if t.kind = 5 then isortV (srtK v t) else srtK v t).length <= 1000
   split
   ·unfold isortV; rw [isortN_len, srtK_len]; exact h
   ·rw [srtK_len]; exact h
  ·exact Nat.zero_le _
theorem valF_kids {l : List Int} {s : DS} {t : TD} (hr : rightT 8 t = true) : (valF l s t).1.kids.length <= 1000 := by
 unfold valF
 split
 ·exact sort_kids (loose_kids hr (by omega))
 ·exact sort_kids (loose_kids hr (by omega))
end Go.AM
