/- GP GQ CrC CrD GR GS CrE CrF LEff LFlat FA -/
import Derived.Test.YtpmodjodfimejaaGreatg17
import Derived.Test.YtpmodjodfimejaaGreatg8
import Derived.Test.YtpmodjodfimejaaGreatg7
namespace Go.AM
open Go Go.Proofs Go.RowKit
set_option maxRecDepth 100000
set_option maxHeartbeats 8000000
theorem any_bad {α : Type} [Inhabited α] {l : List α} {p : α -> Bool} {i : Nat} (h : i < l.length) (hb : p l[i]! = true) : l.any p = true := by
 rw [List.any_eq_true]
 exact ⟨l[i]!, mem_bangI h, hb⟩
theorem any_ok {α : Type} [Inhabited α] {l : List α} {p : α -> Bool} (h : ∀ i, i < l.length -> p l[i]! = false) : l.any p = false := by
 rw [List.any_eq_false]
 intro x hx
 obtain ⟨i, hi, rfl⟩ := List.getElem_of_mem hx
 have := h i hi
 rw [getElem!_pos l i hi] at this
 rw [this]; simp
theorem con_rpranks (l : List Int) (hl : l.length <= 1000000) : Con Tryz.prog 184 [vs 0 l] [] fun r _ => r = vb (rankedL l) := by
 refine Con.intro Tryz.func184 rfl Tryz.ntmps184 Tryz.results184 (by kernel_rfl) (by simp) 0 (by simp) ?_
 unfold rankedL
 simp only [go_sem]
 refine LoopK.intro (fun i : Nat => ⟨30, [(0, vs 0 l), (3, vi i)], []⟩) (fun i => l.length - i) (fun i => i <= l.length /\ ∀ j, j < i -> badRank l[j]! = false) 0 ⟨by omega, fun j hj => by omega⟩ ?_ ?_
 ·simp only [go_sem]
 rintro i ⟨hi, hj⟩
 by_cases h : i < l.length
 ·have hg := getv h
  have hw : IntKind.i64.wrap (i + 1) = i + 1 := wrap_in (by omega) (by omega)
  have hbr : badRank l[i]! = (decide (l[i]! < 0) || decide (6 <= l[i]!)) := rfl
  by_cases h1 : l[i]! < 0
  ·have hb := any_bad (p := badRank) h (by rw [hbr, decide_eq_true h1, Bool.true_or])
   rw [hb, Bool.not_true, Bool.and_false]
   simp only [go_sem, h, hg, h1]
  by_cases h2 : 6 <= l[i]!
  ·have hb := any_bad (p := badRank) h (by rw [hbr, decide_eq_true h2, Bool.or_true])
   rw [hb, Bool.not_true, Bool.and_false]
   simp only [go_sem, h, hg, h1, h2]
  simp only [go_sem, h, hg, h1, h2, hw]
  refine roundK.intro (i + 1) ⟨by omega, fun j hj2 => ?_⟩ (by omega) ?_
  ·by_cases e : j = i
   ·rw [e, hbr, decide_eq_false h1, decide_eq_false h2]; rfl
   ·exact hj j (by omega)
  simp only [go_sem]
 ·have hb := any_ok (l := l) (p := badRank) fun j hj2 => hj j (by omega)
  rw [hb, Bool.not_false, Bool.and_true]
  by_cases h1 : 1 <= l.length
  ·have h1' : (1 : Int) <= (l.length : Int) := by omega
   by_cases h2 : l.length <= 6
   ·have h2' : (l.length : Int) <= 6 := by omega
    simp only [go_sem, h, h1', h2', h1, h2, decide_true, Bool.true_and]
   ·have h2' : ¬ (l.length : Int) <= 6 := by omega
    simp only [go_sem, h, h1', h2', h1, h2, decide_true, decide_false, Bool.true_and]
  ·have h1' : ¬ (1 : Int) <= (l.length : Int) := by omega
   simp only [go_sem, h, h1', h1, decide_false, Bool.false_and]
theorem con_rtvalid : ∀ (d : Nat) (t : TD), d <= 100 -> t.Ok -> Con Tryz.prog 149 [vT t, vi d] [] fun r _ => r = vb (rightT d t) := by
 intro d
 induction d with
 | zero =>
  intro t _ ht
  rw [vT_eq]
  refine Con.intro Tryz.func149 rfl Tryz.ntmps149 Tryz.results149 (by kernel_rfl) (by simp) 0 (by simp) ?_
  have h0 : (((0 : Nat) : Int) == 0) = true := rfl
  simp only [go_sem, rightT]
 | succ d ih =>
  intro t hd ht
  have hrl := ht.rlen
  have hpl := ht.plen
  have hw : IntKind.i64.wrap ((d : Int) + 1 - 1) = (d : Int) := by rw [wrap_in (by omega) (by omega)]; omega
  rw [vT_eq]
  refine Con.intro Tryz.func149 rfl Tryz.ntmps149 Tryz.results149 (by kernel_rfl) (by simp) 0 (by simp) ?_
  have hzp : ((t.parts.length : Int) == 0) = (t.parts.length == 0) := zero_len _
  have h0 : ((d : Int) + 1 == 0) = false := beq_eq_false_iff_ne.2 (by omega)
  by_cases hbad : 0 < t.ranks.length /\ t.kind ≠ 7
  ·have e : rightT (d + 1) t = false := by unfold rightT; rw [if_pos hbad]
   have h1 := hbad.1
   have h2 : (t.kind != 7) = true := bne_iff_ne.2 hbad.2
   simp only [go_sem, h0, h1, h2, List.length_map, e]
  have e : rightT (d + 1) t = if t.kind = 1 then t.parts.length == 0 && t.size == 0
    else if t.kind = 2 \/ t.kind = 6 then t.parts.length == 0 && decide (1 <= t.size) && decide (t.size <= 16)
    else if t.kind = 7 then t.parts.length == 0 && t.size == t.ranks.length && rankedL t.ranks
    else if t.kind = 3 then t.size == 0 && !(t.parts.length == 0) && decide (t.parts.length <= 8) && !t.parts.any fun p => !rightT d p
    else if t.kind = 4 \/ t.kind = 5 then t.size == 0 && t.parts.length == 1 && !t.parts.any fun p => !rightT d p
    else false := by rw [rightT, if_neg hbad]
  rw [e]
  have hgo : (0 < t.ranks.length) = False \/ ((0 < t.ranks.length) = True /\ t.kind = 7) := by
   by_cases h : 0 < t.ranks.length
   ·exact .inr ⟨eq_true h, Classical.byContradiction fun hk => hbad ⟨h, hk⟩⟩
   ·exact .inl (eq_false h)
  by_cases k7 : t.kind = 7
  ·have hp := con_rpranks t.ranks hrl
   have hne : (t.kind != 7) = false := by rw [k7]; rfl
   have b1 : (t.kind == 1) = false := by rw [k7]; rfl
   have b2 : (t.kind == 2) = false := by rw [k7]; rfl
   have b6 : (t.kind == 6) = false := by rw [k7]; rfl
   have b7 : (t.kind == 7) = true := by rw [k7]; rfl
   rw [if_neg (by omega), if_neg (by omega), if_pos k7]
   have hr1 : rankedL t.ranks = true -> 1 <= t.ranks.length /\ t.ranks.length <= 6 := fun h => by
    unfold rankedL at h
    simp only [Bool.and_eq_true, decide_eq_true_eq] at h
    exact ⟨h.1.1, h.1.2⟩
   have hno : ¬ (1 <= t.size /\ t.size <= 6) -> (t.parts.length == 0 && t.size == (t.ranks.length : Int) && rankedL t.ranks) = false := fun h => by
    rw [Bool.eq_false_iff]
    intro h2
    rw [Bool.and_eq_true, Bool.and_eq_true, beq_iff_eq, beq_iff_eq] at h2
    have := hr1 h2.2
    omega
   rcases hgo with hgo | ⟨hgo, _⟩
   all_goals
    by_cases hs1 : 1 <= t.size
    case neg =>
     rw [hno (by omega)]
     simp only [go_sem, h0, hgo, hne, b1, b2, b6, b7, hs1, List.length_map]
    by_cases hs2 : t.size <= 6
    case neg =>
     rw [hno (by omega)]
     simp only [go_sem, h0, hgo, hne, b1, b2, b6, b7, hs1, hs2, List.length_map]
    cases hz : t.parts.length == 0
    ·simp only [go_sem, h0, hgo, hne, b1, b2, b6, b7, hs1, hs2, hzp, hz, List.length_map, Bool.false_and]
    ·cases hsz : t.size == (t.ranks.length : Int)
     ·have hsz2 : ((t.ranks.length : Int) == t.size) = false := by rw [beq_eq_false_iff_ne] at hsz ⊢; exact fun h => hsz h.symm
      simp only [go_sem, h0, hgo, hne, b1, b2, b6, b7, hs1, hs2, hzp, hz, hsz2, List.length_map, Bool.false_and, Bool.and_false]
     ·have hsz2 : ((t.ranks.length : Int) == t.size) = true := by rw [beq_iff_eq] at hsz ⊢; exact hsz.symm
      simp only [go_sem, h0, hgo, hne, b1, b2, b6, b7, hs1, hs2, hzp, hz, hsz2, List.length_map]
      refine CallU.free hp (by simp only [go_sem]) (by simp only [go_sem]) ?_
      rintro r bx rfl
      simp only [go_sem]
  have hgo : (0 < t.ranks.length) = False := hgo.resolve_right fun h => k7 h.2
  by_cases k1 : t.kind = 1
  ·have b1 : (t.kind == 1) = true := beq_iff_eq.2 k1
   rw [if_pos k1, Bool.and_comm]
   cases hz : t.size == 0
   ·simp only [go_sem, h0, hgo, b1, hz, List.length_map, Bool.false_and]
   ·simp only [go_sem, h0, hgo, b1, hzp, hz, List.length_map, Bool.true_and]
  have b1 : (t.kind == 1) = false := beq_eq_false_iff_ne.2 k1
  rw [if_neg k1]
  by_cases k26 : t.kind = 2 \/ t.kind = 6
  ·rw [if_pos k26]
   have b26 : (t.kind == 2) = true \/ ((t.kind == 2) = false /\ (t.kind == 6) = true) := by
    rcases k26 with h | h
    ·exact .inl (beq_iff_eq.2 h)
    ·exact .inr ⟨beq_eq_false_iff_ne.2 (by omega), beq_iff_eq.2 h⟩
   have e2 : (t.parts.length == 0 && decide (1 <= t.size) && decide (t.size <= 16)) = (decide (1 <= t.size) && (decide (t.size <= 16) && (t.parts.length == 0))) := by ac_rfl
   rw [e2]
   rcases b26 with b2 | ⟨b2, b6⟩
   case' inl =>
    by_cases hs1 : 1 <= t.size
    ·by_cases hs2 : t.size <= 16
     ·simp only [go_sem, h0, hgo, b1, b2, hzp, List.length_map, Bool.true_and, hs1, hs2, decide_true]
     ·simp only [go_sem, h0, hgo, b1, b2, List.length_map, Bool.true_and, hs1, hs2, decide_true, decide_false, Bool.false_and]
    ·simp only [go_sem, h0, hgo, b1, b2, List.length_map, hs1, decide_false, Bool.false_and]
   case' inr =>
    by_cases hs1 : 1 <= t.size
    ·by_cases hs2 : t.size <= 16
     ·simp only [go_sem, h0, hgo, b1, b2, b6, hzp, List.length_map, Bool.true_and, hs1, hs2, decide_true]
     ·simp only [go_sem, h0, hgo, b1, b2, b6, List.length_map, Bool.true_and, hs1, hs2, decide_true, decide_false, Bool.false_and]
    ·simp only [go_sem, h0, hgo, b1, b2, b6, List.length_map, hs1, decide_false, Bool.false_and]
  have b2 : (t.kind == 2) = false := beq_eq_false_iff_ne.2 (by omega)
  have b6 : (t.kind == 6) = false := beq_eq_false_iff_ne.2 (by omega)
  have b7 : (t.kind == 7) = false := beq_eq_false_iff_ne.2 k7
  rw [if_neg k26, if_neg k7]
  by_cases k3 : t.kind = 3
  ·have b3 : (t.kind == 3) = true := beq_iff_eq.2 k3
   have b4 : (t.kind == 4) = false := by rw [k3]; rfl
   have b5 : (t.kind == 5) = false := by rw [k3]; rfl
   rw [if_pos k3]
   cases hsz : t.size == 0
   ·have hsz' : (t.size != 0) = true := by unfold bne; rw [hsz]; rfl
    simp only [go_sem, h0, hgo, b1, b2, b6, b7, b3, b4, b5, hsz', List.length_map, Bool.false_and]
   have hsz' : (t.size != 0) = false := by unfold bne; rw [hsz]; rfl
   cases hz : t.parts.length == 0
   case true =>
    have a1 : (t.parts.length : Int) < 1 := by rw [beq_iff_eq] at hz; omega
    rw [Bool.not_true, Bool.and_false, Bool.false_and, Bool.false_and]
    simp only [go_sem, h0, hgo, b1, b2, b6, b7, b3, b4, b5, hsz', a1, List.length_map]
   have a1 : ¬ (t.parts.length : Int) < 1 := by rw [beq_eq_false_iff_ne] at hz; omega
   by_cases h8 : t.parts.length <= 8
   case neg =>
    have h8' : (8 : Int) < (t.parts.length : Int) := by omega
    rw [decide_eq_false h8, Bool.and_false, Bool.false_and]
    simp only [go_sem, h0, hgo, b1, b2, b6, b7, b3, b4, b5, hsz', a1, h8', List.length_map]
   have h8' : ¬ (8 : Int) < (t.parts.length : Int) := by omega
   rw [decide_eq_true h8, Bool.not_false, Bool.true_and, Bool.true_and, Bool.true_and]
   simp only [go_sem, h0, hgo, b1, b2, b6, b7, b3, b4, b5, hsz', a1, h8', List.length_map]
   refine LoopK.intro (fun i : Nat => ⟨132, [(1, vi ((d : Int) + 1)), (2, .pb 0 0), (5, vi i)], [[vi t.kind, vi t.size, vs 0 t.ranks, .sl 0 4 (t.parts.map vT)]]⟩)
    (fun i => t.parts.length - i) (fun i => i <= t.parts.length /\ ∀ j, j < i -> (!rightT d t.parts[j]!) = false) 0 ⟨by omega, fun j hj => by omega⟩ ?_ ?_
   ·simp only [go_sem]
   rintro i ⟨hi, hj⟩
   by_cases h : i < t.parts.length
   ·have hg := getvT h
    have hw2 : IntKind.i64.wrap (i + 1) = i + 1 := wrap_in (by omega) (by omega)
    simp only [go_sem, h, hg, hw, List.length_map]
    refine CallU.free (ih t.parts[i]! (by omega) (ht.part (mem_bangI h))) (by simp only [go_sem]) (by simp only [go_sem, vT_eq]) ?_
    rintro r bx rfl
    cases hp : rightT d t.parts[i]!
    ·have hb := any_bad (p := fun p => !rightT d p) h (by rw [hp]; rfl)
     rw [hb]
     simp only [go_sem, Bool.not_true]
    simp only [go_sem, hw2]
    refine roundK.intro (i + 1) ⟨by omega, fun j hj2 => ?_⟩ (by omega) ?_
    ·by_cases e : j = i
     ·rw [e, hp]; rfl
     ·exact hj j (by omega)
    simp only [go_sem]
   ·have hb := any_ok (l := t.parts) (p := fun p => !rightT d p) fun j hj2 => hj j (by omega)
    rw [hb]
    simp only [go_sem, h, List.length_map, Bool.not_false]
  have b3 : (t.kind == 3) = false := beq_eq_false_iff_ne.2 k3
  rw [if_neg k3]
  by_cases k45 : t.kind = 4 \/ t.kind = 5
  case neg =>
   have b4 : (t.kind == 4) = false := beq_eq_false_iff_ne.2 (by omega)
   have b5 : (t.kind == 5) = false := beq_eq_false_iff_ne.2 (by omega)
   rw [if_neg k45]
   simp only [go_sem, h0, hgo, b1, b2, b6, b7, b3, b4, b5, List.length_map]
  rw [if_pos k45]
  have h1p : ((t.parts.length : Int) == 1) = (t.parts.length == 1) := by
   rw [Bool.eq_iff_iff]; simp; omega
  have b45 : (t.kind == 4) = true \/ ((t.kind == 4) = false /\ (t.kind == 5) = true) := by
   rcases k45 with h | h
   ·exact .inl (beq_iff_eq.2 h)
   ·exact .inr ⟨beq_eq_false_iff_ne.2 (by omega), beq_iff_eq.2 h⟩
  cases hsz : t.size == 0
  ·rcases b45 with b4 | ⟨b4, b5⟩
   ·simp only [go_sem, h0, hgo, b1, b2, b6, b7, b4, hsz, List.length_map, Bool.false_and]
   ·simp only [go_sem, h0, hgo, b1, b2, b6, b7, b4, b5, hsz, List.length_map, Bool.false_and]
  cases hz : t.parts.length == 1
  ·rcases b45 with b4 | ⟨b4, b5⟩
   ·simp only [go_sem, h0, hgo, b1, b2, b6, b7, b4, hsz, h1p, hz, List.length_map, Bool.and_false, Bool.false_and]
   ·simp only [go_sem, h0, hgo, b1, b2, b6, b7, b4, b5, hsz, h1p, hz, List.length_map, Bool.and_false, Bool.false_and]
  have hone : 0 < t.parts.length := by rw [beq_iff_eq] at hz; omega
  have hg := getvT hone
  have hc := ih t.parts[0]! (by omega) (ht.part (mem_bangI hone))
  have hany : (t.parts.any fun p => !rightT d p) = !rightT d t.parts[0]! := by
   rw [beq_iff_eq] at hz
   obtain ⟨x, hx⟩ := List.length_eq_one_iff.1 hz
   rw [hx]
   simp
  rw [hany, Bool.not_not, Bool.true_and, Bool.true_and]
  generalize t.parts[0]! = p0 at *
  rcases b45 with b4 | ⟨b4, b5⟩
  ·simp only [go_sem, h0, hgo, b1, b2, b6, b7, b4, hsz, h1p, hz, hone, hg, hw, List.length_map]
   refine CallU.free hc (by simp only [go_sem]) (by simp only [go_sem, vT_eq]) ?_
   rintro r bx rfl
   simp only [go_sem]
  ·simp only [go_sem, h0, hgo, b1, b2, b6, b7, b4, b5, hsz, h1p, hz, hone, hg, hw, List.length_map]
   refine CallU.free hc (by simp only [go_sem]) (by simp only [go_sem, vT_eq]) ?_
   rintro r bx rfl
   simp only [go_sem]
theorem con_rtCheckG (t : TD) (ht : t.Ok) : Con Tryz.prog 95 [vT t] [] fun r _ => r = vi (checkT t) := by
 have hr := con_rtvalid 8 t (by omega) ht
 have e1 := vT_eq t
 rw [e1] at hr ⊢
 refine Con.intro Tryz.func95 rfl Tryz.ntmps95 Tryz.results95 (by kernel_rfl) (by simp) 0 (by simp) ?_
 unfold checkT
 simp only [go_sem]
 refine CallU.free hr (by simp only [go_sem]) (by simp only [go_sem]) ?_
 rintro r bx rfl
 cases rightT 8 t
 ·simp only [go_sem, Bool.false_eq_true, if_false]
 ·simp only [go_sem, if_true]
theorem con_rcount (v : CV) (most : Int) (h1 : 0 <= most) (h2 : most <= 128) (hv : v.Ok) : Con Tryz.prog 96 [vV v, vi most] [] fun r _ => r = vi (countV v most) := by
 have key : ∀ (s : Nat) (v : CV) (most : Int), SizeOf.sizeOf v <= s -> 0 <= most -> most <= 128 -> v.Ok -> Con Tryz.prog 96 [vV v, vi most] [] fun r _ => r = vi (countV v most) := by
  intro s
  induction s with
  | zero => intro v _ hs; cases v; rw [CV.mk.sizeOf_spec] at hs; omega
  | succ s ih =>
   intro v most hs h1 h2 hv
   have hlen := hv.len
   have e0 : countV v most = countVs v.kids most 1 := by cases v; rw [countV]; rfl
   rw [vV_eq, e0]
   refine Con.intro Tryz.func96 rfl Tryz.ntmps96 Tryz.results96 (by kernel_rfl) (by simp) 0 (by simp) ?_
   simp only [go_sem]
   refine LoopK.intro (fun q : Nat × Int => ⟨31, [(1, vi most), (2, .pb 0 0), (5, vi q.2), (6, vi q.1)], [[vi v.n, .sl 0 2 (v.kids.map vV)]]⟩)
    (fun q => v.kids.length - q.1) (fun q => q.1 <= v.kids.length /\ 1 <= q.2 /\ q.2 <= most + 1 /\ countVs (v.kids.drop q.1) most q.2 = countVs v.kids most 1) (0, 1) ⟨by simp, by simp, by show (1 : Int) <= most + 1; omega, rfl⟩ ?_ ?_
   ·simp only [go_sem]
   rintro ⟨i, n⟩ ⟨hi, hn1, hn2, he⟩
   simp only at hi hn1 hn2 he
   by_cases h : i < v.kids.length
   ·have hg := getvV h
    have hw : IntKind.i64.wrap (i + 1) = i + 1 := wrap_in (by omega) (by omega)
    rw [drop_kid h, countVs] at he
    by_cases hm : most < n
    ·rw [if_pos hm] at he
     have hm' : ¬ n <= most := by omega
     simp only [go_sem, h, List.length_map, hm']
     rw [he]
    ·rw [if_neg hm] at he
     have hm' : n <= most := by omega
     have hmem : v.kids[i]! ∈ v.kids := mem_bangI h
     have hb := countV_bnd v.kids[i]! (most - n) (by omega)
     have hsz := kid_size hmem
     have hw1 : IntKind.i64.wrap (most - n) = most - n := wrap_in (by omega) (by omega)
     have hw2 : IntKind.i64.wrap (n + countV v.kids[i]! (most - n)) = n + countV v.kids[i]! (most - n) := wrap_in (by omega) (by omega)
     simp only [go_sem, h, hg, List.length_map, hm', hw1]
     refine CallU.free (ih v.kids[i]! (most - n) (by omega) (by omega) (by omega) (hv.kid hmem)) (by simp only [go_sem]) (by simp only [go_sem, vV_eq]) ?_
     rintro r bx rfl
     simp only [go_sem, hw, hw2]
     refine roundK.intro (i + 1, n + countV v.kids[i]! (most - n)) ⟨by show i + 1 <= _; omega, by show 1 <= n + _; omega, by show n + _ <= _; omega, he⟩ (by show _ - (i + 1) < _ - i; omega) ?_
     simp only [go_sem]
   ·rw [List.drop_eq_nil_of_le (by omega), countVs] at he
    simp only [go_sem, h, List.length_map]
    rw [he]
 exact key _ v most (Nat.le_refl _) h1 h2 hv
theorem con_rtypeOf16 (m : MD) (hp : m.places.length <= 1000000) (hk : m.kind = 1 \/ m.kind = 6) : Con Tryz.prog 77 [vM m] [] fun r _ => r = flatT 2 (partsP m.states.length m.places.length) := by
 refine Con.intro Tryz.func77 rfl Tryz.ntmps77 Tryz.results77 (by kernel_rfl) (by simp) 0 (by simp) ?_
 have b2 : (m.kind == 2) = false := beq_eq_false_iff_ne.2 (by omega)
 have b3 : (m.kind == 3) = false := beq_eq_false_iff_ne.2 (by omega)
 have b4 : (m.kind == 4) = false := beq_eq_false_iff_ne.2 (by omega)
 have b5 : (m.kind == 5) = false := beq_eq_false_iff_ne.2 (by omega)
 unfold vM cM
 simp only [go_sem, vss, List.length_map, b4, b5]
 refine LoopK.intro (fun i : Nat => ⟨96, [(1, .pb 0 0), (2, .pb 1 0), (3, .pb 2 0), (4, .pb 3 0), (8, vi i)], [vi m.kind, .sl 0 1 (m.states.map vStr), .sl 0 1 (m.places.map vStr), .sl 0 1 (m.letters.map vStr), vs 0 m.ranks, vi m.levels, vi m.age, .sl 0 14 (m.rules.map vRule), vi m.start.n, .sl 0 2 (m.start.kids.map vV)] :: [.any, .any, .any, .any] :: [vi 3, vi 0, .nil, .sl 960 4 ((partsP m.states.length i).map vPT)] :: [.any, .any, .any, .any] :: Rk 4 i⟩)
  (fun i => m.places.length - i) (fun i => i <= m.places.length) 0 (by omega) ?_ ?_
 ·simp only [go_sem, partsP, List.replicate_zero, List.map_cons, List.map_nil]
  all_goals exact leB_self _
 rintro i hi
 by_cases hlt : i < m.places.length
 ·have hw : IntKind.i64.wrap (i + 1) = i + 1 := wrap_in (by omega) (by omega)
  have hB := Rk_len 4 i
  have n0 := fun L : List (List AV) => app_at0 (L := L) hB
  have s0 := fun (L : List (List AV)) z => app_set0 (L := L) (z := z) hB
  have e := parts_succ m.states.length i
  simp only [go_sem, hlt, hw, hB, n0, s0, b2, b3, List.length_map]
  refine ⟨by simp only [roomFor, parts_len]; omega, ?_⟩
  refine roundK.intro (i + 1) (by omega) (by omega) ?_
  simp only [go_sem, Rk_succ, e, List.map_append, List.map_cons, List.map_nil]
  exact leB_RkA ⟨leC_any _ 4 rfl, trivial⟩
 ·obtain rfl : i = m.places.length := by omega
  simp only [go_sem, hlt, List.length_map]
def placeR (nl : Nat) : AV := .ag [vi 4, vi 0, .nil, .sl 0 4 [.ag [vi 2, vi nl, .nil, .nil]]]
theorem con_rtypeOf2 (m : MD) (hp : m.places.length <= 1000000) (hk : m.kind = 2) : Con Tryz.prog 77 [vM m] [] fun r _ => r = .ag [vi 3, vi 0, .nil, .sl 2 4 (.ag [vi 2, vi m.states.length, .nil, .nil] :: List.replicate m.places.length (placeR m.letters.length))] := by
 refine Con.intro Tryz.func77 rfl Tryz.ntmps77 Tryz.results77 (by kernel_rfl) (by simp) 0 (by simp) ?_
 unfold vM cM
 rw [hk]
 simp only [go_sem, vss, List.length_map]
 refine LoopK.intro (fun i : Nat => ⟨96, [(1, .pb 0 0), (2, .pb 1 0), (3, .pb 2 0), (4, .pb 3 0), (8, vi i)], [vi 2, .sl 0 1 (m.states.map vStr), .sl 0 1 (m.places.map vStr), .sl 0 1 (m.letters.map vStr), vs 0 m.ranks, vi m.levels, vi m.age, .sl 0 14 (m.rules.map vRule), vi m.start.n, .sl 0 2 (m.start.kids.map vV)] :: [.any, .any, .any, .any] :: [vi 3, vi 0, .nil, .sl 960 4 (.ag [vi 2, vi m.states.length, .nil, .nil] :: List.replicate i (placeR m.letters.length))] :: [vi 2, vi m.letters.length, .nil, .nil] :: Rk 4 i⟩)
  (fun i => m.places.length - i) (fun i => i <= m.places.length) 0 (by omega) ?_ ?_
 ·simp only [go_sem, List.replicate_zero]
  all_goals exact leB_self _
 rintro i hi
 by_cases hlt : i < m.places.length
 ·have hw : IntKind.i64.wrap (i + 1) = i + 1 := wrap_in (by omega) (by omega)
  have hB := Rk_len 4 i
  have n0 := fun L : List (List AV) => app_at0 (L := L) hB
  have s0 := fun (L : List (List AV)) z => app_set0 (L := L) (z := z) hB
  have e : List.replicate (i + 1) (placeR m.letters.length) = List.replicate i (placeR m.letters.length) ++ [placeR m.letters.length] := rep_succ _ _
  simp only [go_sem, hlt, hw, hB, n0, s0, List.length_map]
  refine ⟨by simp only [roomFor, List.length_replicate]; omega, ?_⟩
  refine roundK.intro (i + 1) (by omega) (by omega) ?_
  simp only [go_sem, Rk_succ, e]
  exact ⟨leV_refl _, leB_RkA ⟨leC_any _ 4 rfl, trivial⟩⟩
 ·obtain rfl : i = m.places.length := by omega
  simp only [go_sem, hlt, List.length_map]
def agesR (np : Nat) (a : Int) : AV := .ag [vi 5, vi 0, .nil, .sl 0 4 [.ag [vi 3, vi 0, .nil, .sl 0 4 [.ag [vi 2, vi np, .nil, .nil], .ag [vi 2, vi (a + 2), .nil, .nil]]]]]
theorem con_rtypeOf5 (m : MD) (ha : 0 <= m.age /\ m.age <= 1000000) (hk : m.kind = 5) : Con Tryz.prog 77 [vM m] [] fun r _ => r = .ag [vi 3, vi 0, .nil, .sl 2 4 [.ag [vi 2, vi m.states.length, .nil, .nil], agesR m.places.length m.age]] := by
 refine Con.intro Tryz.func77 rfl Tryz.ntmps77 Tryz.results77 (by kernel_rfl) (by simp) 0 (by simp) ?_
 have hw : IntKind.i64.wrap (m.age + 2) = m.age + 2 := wrap_in (by omega) (by omega)
 have hro : roomFor (1 + 1) 64 := by simp only [roomFor]; omega
 unfold vM cM agesR
 rw [hk]
 simp only [go_sem, vss, List.length_map, hw, List.length_cons, List.length_nil, hro]
end Go.AM
namespace Go.AM
end Go.AM
namespace Go.AM
open Go Go.Proofs Go.RowKit
set_option maxRecDepth 100000
theorem con_mplain1 (r : RD) : Con Tryz.prog 140 [vRule r] [] fun x _ => x = .sc (.bool (!stillB r)) := by
 refine Con.intro Tryz.func140 rfl Tryz.ntmps140 Tryz.results140 (by kernel_rfl) (by simp) 1 (by simp) ?_
 unfold stillB
 simp only [go_sem]
 cases r.move <;> simp
theorem con_mplain (m : MD) (hk : m.kind = 1) (hl : m.rules.length <= 9223372036854775806) : Con Tryz.prog 86 [vM m] [] fun x _ => x = vb (m.rules.all stillB) := by
 refine Con.intro Tryz.func86 rfl Tryz.ntmps86 Tryz.results86 (by kernel_rfl) (by simp) 1 (by simp) ?_
 simp only [go_sem, hk]
 refine CallU.free (con_containsRule m.rules 140 [] (fun r => !stillB r) rfl (fun r _ => con_mplain1 r) hl) (by simp only [go_sem]) (by simp only [go_sem]) ?_
 rintro r bx rfl
 simp only [go_sem, any_not]
def SmallR (np : Nat) (r : RD) : Prop := r.need.length = np /\ r.give.length = np /\ (∀ x ∈ r.need, 0 <= x /\ x <= 16) /\ ∀ x ∈ r.give, 0 <= x /\ x <= 16
end Go.AM
