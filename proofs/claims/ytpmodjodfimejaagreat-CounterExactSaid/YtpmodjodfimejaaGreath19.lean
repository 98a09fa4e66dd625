/- GP GQ GR GS LCyc FG GT GU GV GW GX GY KV LMod -/
import Derived.Test.YtpmodjodfimejaaGreath18
import Derived.Test.YtpmodjodfimejaaGreath7
import Derived.Test.YtpmodjodfimejaaGreath8
namespace Go.AM
open Go Go.Proofs Go.RowKit
set_option maxRecDepth 100000
set_option maxHeartbeats 8000000
theorem any_bad {α : Type} [Inhabited α] {l : List α} {p : α -> Bool} {i : Nat} (h : i < l.length) (hb : p l[i]! = true) : l.any p = true := by
 rw [List.any_eq_true]
 exact ⟨l[i]!, mem_bangI h, hb⟩
theorem any_ok {α : Type} [Inhabited α] {l : List α} {p : α -> Bool} (h : ∀ i, i < l.length -> p l[i]! = false) : l.any p = false := by
 rw [List.any_eq_false]
 intro x hx
 obtain ⟨i, hi, rfl⟩ := List.getElem_of_mem hx
 have := h i hi
 rw [getElem!_pos l i hi] at this
 rw [this]; simp
theorem con_rpranks (l : List Int) (hl : l.length <= 1000000) : Con Tryz.prog 184 [vs 0 l] [] fun r _ => r = vb (rankedL l) := by
 refine Con.intro Tryz.func184 rfl Tryz.ntmps184 Tryz.results184 (by kernel_rfl) (by simp) 0 (by simp) ?_
 unfold rankedL
 simp only [go_sem]
 refine LoopK.intro (fun i : Nat => ⟨30, [(0, vs 0 l), (3, vi i)], []⟩) (fun i => l.length - i) (fun i => i <= l.length /\ ∀ j, j < i -> badRank l[j]! = false) 0 ⟨by omega, fun j hj => by omega⟩ ?_ ?_
 ·simp only [go_sem]
 rintro i ⟨hi, hj⟩
 by_cases h : i < l.length
 ·have hg := getv h
  have hw : IntKind.i64.wrap (i + 1) = i + 1 := wrap_in (by omega) (by omega)
  have hbr : badRank l[i]! = (decide (l[i]! < 0) || decide (6 <= l[i]!)) := rfl
  by_cases h1 : l[i]! < 0
  ·have hb := any_bad (p := badRank) h (by rw [hbr, decide_eq_true h1, Bool.true_or])
   rw [hb, Bool.not_true, Bool.and_false]
   simp only [go_sem, h, hg, h1]
  by_cases h2 : 6 <= l[i]!
  ·have hb := any_bad (p := badRank) h (by rw [hbr, decide_eq_true h2, Bool.or_true])
   rw [hb, Bool.not_true, Bool.and_false]
   simp only [go_sem, h, hg, h1, h2]
  simp only [go_sem, h, hg, h1, h2, hw]
  refine roundK.intro (i + 1) ⟨by omega, fun j hj2 => ?_⟩ (by omega) ?_
  ·by_cases e : j = i
   ·rw [e, hbr, decide_eq_false h1, decide_eq_false h2]; rfl
   ·exact hj j (by omega)
  simp only [go_sem]
 ·have hb := any_ok (l := l) (p := badRank) fun j hj2 => hj j (by omega)
  rw [hb, Bool.not_false, Bool.and_true]
  by_cases h1 : 1 <= l.length
  ·have h1' : (1 : Int) <= (l.length : Int) := by omega
   by_cases h2 : l.length <= 6
   ·have h2' : (l.length : Int) <= 6 := by omega
    simp only [go_sem, h, h1', h2', h1, h2, decide_true, Bool.true_and]
   ·have h2' : ¬ (l.length : Int) <= 6 := by omega
    simp only [go_sem, h, h1', h2', h1, h2, decide_true, decide_false, Bool.true_and]
  ·have h1' : ¬ (1 : Int) <= (l.length : Int) := by omega
   simp only [go_sem, h, h1', h1, decide_false, Bool.false_and]
theorem con_rtvalid : ∀ (d : Nat) (t : TD), d <= 100 -> t.Ok -> Con Tryz.prog 149 [vT t, vi d] [] fun r _ => r = vb (rightT d t) := by
 intro d
 induction d with
 | zero =>
  intro t _ ht
  rw [vT_eq]
  refine Con.intro Tryz.func149 rfl Tryz.ntmps149 Tryz.results149 (by kernel_rfl) (by simp) 0 (by simp) ?_
  have h0 : (((0 : Nat) : Int) == 0) = true := rfl
  simp only [go_sem, rightT]
 | succ d ih =>
  intro t hd ht
  have hrl := ht.rlen
  have hpl := ht.plen
  have hw : IntKind.i64.wrap ((d : Int) + 1 - 1) = (d : Int) := by rw [wrap_in (by omega) (by omega)]; omega
  rw [vT_eq]
  refine Con.intro Tryz.func149 rfl Tryz.ntmps149 Tryz.results149 (by kernel_rfl) (by simp) 0 (by simp) ?_
  have hzp : ((t.parts.length : Int) == 0) = (t.parts.length == 0) := zero_len _
  have h0 : ((d : Int) + 1 == 0) = false := beq_eq_false_iff_ne.2 (by omega)
  by_cases hbad : 0 < t.ranks.length /\ t.kind ≠ 7
  ·have e : rightT (d + 1) t = false := by unfold rightT; rw [if_pos hbad]
   have h1 := hbad.1
   have h2 : (t.kind != 7) = true := bne_iff_ne.2 hbad.2
   simp only [go_sem, h0, h1, h2, List.length_map, e]
  have e : rightT (d + 1) t = if t.kind = 1 then t.parts.length == 0 && t.size == 0
    else if t.kind = 2 \/ t.kind = 6 then t.parts.length == 0 && decide (1 <= t.size) && decide (t.size <= 16)
    else if t.kind = 7 then t.parts.length == 0 && t.size == t.ranks.length && rankedL t.ranks
    else if t.kind = 3 then t.size == 0 && !(t.parts.length == 0) && decide (t.parts.length <= 8) && !t.parts.any fun p => !rightT d p
    else if t.kind = 4 \/ t.kind = 5 then t.size == 0 && t.parts.length == 1 && !t.parts.any fun p => !rightT d p
    else false := by rw [rightT, if_neg hbad]
  rw [e]
  have hgo : (0 < t.ranks.length) = False \/ ((0 < t.ranks.length) = True /\ t.kind = 7) := by
   by_cases h : 0 < t.ranks.length
   ·exact .inr ⟨eq_true h, Classical.byContradiction fun hk => hbad ⟨h, hk⟩⟩
   ·exact .inl (eq_false h)
  by_cases k7 : t.kind = 7
  ·have hp := con_rpranks t.ranks hrl
   have hne : (t.kind != 7) = false := by rw [k7]; rfl
   have b1 : (t.kind == 1) = false := by rw [k7]; rfl
   have b2 : (t.kind == 2) = false := by rw [k7]; rfl
   have b6 : (t.kind == 6) = false := by rw [k7]; rfl
   have b7 : (t.kind == 7) = true := by rw [k7]; rfl
   rw [if_neg (by omega), if_neg (by omega), if_pos k7]
   have hr1 : rankedL t.ranks = true -> 1 <= t.ranks.length /\ t.ranks.length <= 6 := fun h => by
    unfold rankedL at h
    simp only [Bool.and_eq_true, decide_eq_true_eq] at h
    exact ⟨h.1.1, h.1.2⟩
   have hno : ¬ (1 <= t.size /\ t.size <= 6) -> (t.parts.length == 0 && t.size == (t.ranks.length : Int) && rankedL t.ranks) = false := fun h => by
    rw [Bool.eq_false_iff]
    intro h2
    rw [Bool.and_eq_true, Bool.and_eq_true, beq_iff_eq, beq_iff_eq] at h2
    have := hr1 h2.2
    omega
   rcases hgo with hgo | ⟨hgo, _⟩
   all_goals
    by_cases hs1 : 1 <= t.size
    case neg =>
     rw [hno (by omega)]
     simp only [go_sem, h0, hgo, hne, b1, b2, b6, b7, hs1, List.length_map]
    by_cases hs2 : t.size <= 6
    case neg =>
     rw [hno (by omega)]
     simp only [go_sem, h0, hgo, hne, b1, b2, b6, b7, hs1, hs2, List.length_map]
    cases hz : t.parts.length == 0
    ·simp only [go_sem, h0, hgo, hne, b1, b2, b6, b7, hs1, hs2, hzp, hz, List.length_map, Bool.false_and]
    ·cases hsz : t.size == (t.ranks.length : Int)
     ·have hsz2 : ((t.ranks.length : Int) == t.size) = false := by rw [beq_eq_false_iff_ne] at hsz ⊢; exact fun h => hsz h.symm
      simp only [go_sem, h0, hgo, hne, b1, b2, b6, b7, hs1, hs2, hzp, hz, hsz2, List.length_map, Bool.false_and, Bool.and_false]
     ·have hsz2 : ((t.ranks.length : Int) == t.size) = true := by rw [beq_iff_eq] at hsz ⊢; exact hsz.symm
      simp only [go_sem, h0, hgo, hne, b1, b2, b6, b7, hs1, hs2, hzp, hz, hsz2, List.length_map]
      refine CallU.free hp (by simp only [go_sem]) (by simp only [go_sem]) ?_
      rintro r bx rfl
      simp only [go_sem]
  have hgo : (0 < t.ranks.length) = False := hgo.resolve_right fun h => k7 h.2
  by_cases k1 : t.kind = 1
  ·have b1 : (t.kind == 1) = true := beq_iff_eq.2 k1
   rw [if_pos k1, Bool.and_comm]
   cases hz : t.size == 0
   ·simp only [go_sem, h0, hgo, b1, hz, List.length_map, Bool.false_and]
   ·simp only [go_sem, h0, hgo, b1, hzp, hz, List.length_map, Bool.true_and]
  have b1 : (t.kind == 1) = false := beq_eq_false_iff_ne.2 k1
  rw [if_neg k1]
  by_cases k26 : t.kind = 2 \/ t.kind = 6
  ·rw [if_pos k26]
   have b26 : (t.kind == 2) = true \/ ((t.kind == 2) = false /\ (t.kind == 6) = true) := by
    rcases k26 with h | h
    ·exact .inl (beq_iff_eq.2 h)
    ·exact .inr ⟨beq_eq_false_iff_ne.2 (by omega), beq_iff_eq.2 h⟩
   have e2 : (t.parts.length == 0 && decide (1 <= t.size) && decide (t.size <= 16)) = (decide (1 <= t.size) && (decide (t.size <= 16) && (t.parts.length == 0))) := by ac_rfl
   rw [e2]
   rcases b26 with b2 | ⟨b2, b6⟩
   case' inl =>
    by_cases hs1 : 1 <= t.size
    ·by_cases hs2 : t.size <= 16
     ·simp only [go_sem, h0, hgo, b1, b2, hzp, List.length_map, Bool.true_and, hs1, hs2, decide_true]
     ·simp only [go_sem, h0, hgo, b1, b2, List.length_map, Bool.true_and, hs1, hs2, decide_true, decide_false, Bool.false_and]
    ·simp only [go_sem, h0, hgo, b1, b2, List.length_map, hs1, decide_false, Bool.false_and]
   case' inr =>
    by_cases hs1 : 1 <= t.size
    ·by_cases hs2 : t.size <= 16
     ·simp only [go_sem, h0, hgo, b1, b2, b6, hzp, List.length_map, Bool.true_and, hs1, hs2, decide_true]
     ·simp only [go_sem, h0, hgo, b1, b2, b6, List.length_map, Bool.true_and, hs1, hs2, decide_true, decide_false, Bool.false_and]
    ·simp only [go_sem, h0, hgo, b1, b2, b6, List.length_map, hs1, decide_false, Bool.false_and]
  have b2 : (t.kind == 2) = false := beq_eq_false_iff_ne.2 (by omega)
  have b6 : (t.kind == 6) = false := beq_eq_false_iff_ne.2 (by omega)
  have b7 : (t.kind == 7) = false := beq_eq_false_iff_ne.2 k7
  rw [if_neg k26, if_neg k7]
  by_cases k3 : t.kind = 3
  ·have b3 : (t.kind == 3) = true := beq_iff_eq.2 k3
   have b4 : (t.kind == 4) = false := by rw [k3]; rfl
   have b5 : (t.kind == 5) = false := by rw [k3]; rfl
   rw [if_pos k3]
   cases hsz : t.size == 0
   ·have hsz' : (t.size != 0) = true := by unfold bne; rw [hsz]; rfl
    simp only [go_sem, h0, hgo, b1, b2, b6, b7, b3, b4, b5, hsz', List.length_map, Bool.false_and]
   have hsz' : (t.size != 0) = false := by unfold bne; rw [hsz]; rfl
   cases hz : t.parts.length == 0
   case true =>
    have a1 : (t.parts.length : Int) < 1 := by rw [beq_iff_eq] at hz; omega
    rw [Bool.not_true, Bool.and_false, Bool.false_and, Bool.false_and]
    simp only [go_sem, h0, hgo, b1, b2, b6, b7, b3, b4, b5, hsz', a1, List.length_map]
   have a1 : ¬ (t.parts.length : Int) < 1 := by rw [beq_eq_false_iff_ne] at hz; omega
   by_cases h8 : t.parts.length <= 8
   case neg =>
    have h8' : (8 : Int) < (t.parts.length : Int) := by omega
    rw [decide_eq_false h8, Bool.and_false, Bool.false_and]
    simp only [go_sem, h0, hgo, b1, b2, b6, b7, b3, b4, b5, hsz', a1, h8', List.length_map]
   have h8' : ¬ (8 : Int) < (t.parts.length : Int) := by omega
   rw [decide_eq_true h8, Bool.not_false, Bool.true_and, Bool.true_and, Bool.true_and]
   simp only [go_sem, h0, hgo, b1, b2, b6, b7, b3, b4, b5, hsz', a1, h8', List.length_map]
   refine LoopK.intro (fun i : Nat => ⟨132, [(1, vi ((d : Int) + 1)), (2, .pb 0 0), (5, vi i)], [[vi t.kind, vi t.size, vs 0 t.ranks, .sl 0 4 (t.parts.map vT)]]⟩)
    (fun i => t.parts.length - i) (fun i => i <= t.parts.length /\ ∀ j, j < i -> (!rightT d t.parts[j]!) = false) 0 ⟨by omega, fun j hj => by omega⟩ ?_ ?_
   ·simp only [go_sem]
   rintro i ⟨hi, hj⟩
   by_cases h : i < t.parts.length
   ·have hg := getvT h
    have hw2 : IntKind.i64.wrap (i + 1) = i + 1 := wrap_in (by omega) (by omega)
    simp only [go_sem, h, hg, hw, List.length_map]
    refine CallU.free (ih t.parts[i]! (by omega) (ht.part (mem_bangI h))) (by simp only [go_sem]) (by simp only [go_sem, vT_eq]) ?_
    rintro r bx rfl
    cases hp : rightT d t.parts[i]!
    ·have hb := any_bad (p := fun p => !rightT d p) h (by rw [hp]; rfl)
     rw [hb]
     simp only [go_sem, Bool.not_true]
    simp only [go_sem, hw2]
    refine roundK.intro (i + 1) ⟨by omega, fun j hj2 => ?_⟩ (by omega) ?_
    ·by_cases e : j = i
     ·rw [e, hp]; rfl
     ·exact hj j (by omega)
    simp only [go_sem]
   ·have hb := any_ok (l := t.parts) (p := fun p => !rightT d p) fun j hj2 => hj j (by omega)
    rw [hb]
    simp only [go_sem, h, List.length_map, Bool.not_false]
  have b3 : (t.kind == 3) = false := beq_eq_false_iff_ne.2 k3
  rw [if_neg k3]
  by_cases k45 : t.kind = 4 \/ t.kind = 5
  case neg =>
   have b4 : (t.kind == 4) = false := beq_eq_false_iff_ne.2 (by omega)
   have b5 : (t.kind == 5) = false := beq_eq_false_iff_ne.2 (by omega)
   rw [if_neg k45]
   simp only [go_sem, h0, hgo, b1, b2, b6, b7, b3, b4, b5, List.length_map]
  rw [if_pos k45]
  have h1p : ((t.parts.length : Int) == 1) = (t.parts.length == 1) := by
   rw [Bool.eq_iff_iff]; simp; omega
  have b45 : (t.kind == 4) = true \/ ((t.kind == 4) = false /\ (t.kind == 5) = true) := by
   rcases k45 with h | h
   ·exact .inl (beq_iff_eq.2 h)
   ·exact .inr ⟨beq_eq_false_iff_ne.2 (by omega), beq_iff_eq.2 h⟩
  cases hsz : t.size == 0
  ·rcases b45 with b4 | ⟨b4, b5⟩
   ·simp only [go_sem, h0, hgo, b1, b2, b6, b7, b4, hsz, List.length_map, Bool.false_and]
   ·simp only [go_sem, h0, hgo, b1, b2, b6, b7, b4, b5, hsz, List.length_map, Bool.false_and]
  cases hz : t.parts.length == 1
  ·rcases b45 with b4 | ⟨b4, b5⟩
   ·simp only [go_sem, h0, hgo, b1, b2, b6, b7, b4, hsz, h1p, hz, List.length_map, Bool.and_false, Bool.false_and]
   ·simp only [go_sem, h0, hgo, b1, b2, b6, b7, b4, b5, hsz, h1p, hz, List.length_map, Bool.and_false, Bool.false_and]
  have hone : 0 < t.parts.length := by rw [beq_iff_eq] at hz; omega
  have hg := getvT hone
  have hc := ih t.parts[0]! (by omega) (ht.part (mem_bangI hone))
  have hany : (t.parts.any fun p => !rightT d p) = !rightT d t.parts[0]! := by
   rw [beq_iff_eq] at hz
   obtain ⟨x, hx⟩ := List.length_eq_one_iff.1 hz
   rw [hx]
   simp
  rw [hany, Bool.not_not, Bool.true_and, Bool.true_and]
  generalize t.parts[0]! = p0 at *
  rcases b45 with b4 | ⟨b4, b5⟩
  ·simp only [go_sem, h0, hgo, b1, b2, b6, b7, b4, hsz, h1p, hz, hone, hg, hw, List.length_map]
   refine CallU.free hc (by simp only [go_sem]) (by simp only [go_sem, vT_eq]) ?_
   rintro r bx rfl
   simp only [go_sem]
  ·simp only [go_sem, h0, hgo, b1, b2, b6, b7, b4, b5, hsz, h1p, hz, hone, hg, hw, List.length_map]
   refine CallU.free hc (by simp only [go_sem]) (by simp only [go_sem, vT_eq]) ?_
   rintro r bx rfl
   simp only [go_sem]
theorem con_rtCheckG (t : TD) (ht : t.Ok) : Con Tryz.prog 95 [vT t] [] fun r _ => r = vi (checkT t) := by
 have hr := con_rtvalid 8 t (by omega) ht
 have e1 := vT_eq t
 rw [e1] at hr ⊢
 refine Con.intro Tryz.func95 rfl Tryz.ntmps95 Tryz.results95 (by kernel_rfl) (by simp) 0 (by simp) ?_
 unfold checkT
 simp only [go_sem]
 refine CallU.free hr (by simp only [go_sem]) (by simp only [go_sem]) ?_
 rintro r bx rfl
 cases rightT 8 t
 ·simp only [go_sem, Bool.false_eq_true, if_false]
 ·simp only [go_sem, if_true]
theorem con_rcount (v : CV) (most : Int) (h1 : 0 <= most) (h2 : most <= 128) (hv : v.Ok) : Con Tryz.prog 96 [vV v, vi most] [] fun r _ => r = vi (countV v most) := by
 have key : ∀ (s : Nat) (v : CV) (most : Int), SizeOf.sizeOf v <= s -> 0 <= most -> most <= 128 -> v.Ok -> Con Tryz.prog 96 [vV v, vi most] [] fun r _ => r = vi (countV v most) := by
  intro s
  induction s with
  | zero => intro v _ hs; cases v; rw [CV.mk.sizeOf_spec] at hs; omega
  | succ s ih =>
   intro v most hs h1 h2 hv
   have hlen := hv.len
   have e0 : countV v most = countVs v.kids most 1 := by cases v; rw [countV]; rfl
   rw [vV_eq, e0]
   refine Con.intro Tryz.func96 rfl Tryz.ntmps96 Tryz.results96 (by kernel_rfl) (by simp) 0 (by simp) ?_
   simp only [go_sem]
   refine LoopK.intro (fun q : Nat × Int => ⟨31, [(1, vi most), (2, .pb 0 0), (5, vi q.2), (6, vi q.1)], [[vi v.n, .sl 0 2 (v.kids.map vV)]]⟩)
    (fun q => v.kids.length - q.1) (fun q => q.1 <= v.kids.length /\ 1 <= q.2 /\ q.2 <= most + 1 /\ countVs (v.kids.drop q.1) most q.2 = countVs v.kids most 1) (0, 1) ⟨by simp, by simp, by show (1 : Int) <= most + 1; omega, rfl⟩ ?_ ?_
   ·simp only [go_sem]
   rintro ⟨i, n⟩ ⟨hi, hn1, hn2, he⟩
   simp only at hi hn1 hn2 he
   by_cases h : i < v.kids.length
   ·have hg := getvV h
    have hw : IntKind.i64.wrap (i + 1) = i + 1 := wrap_in (by omega) (by omega)
    rw [drop_kid h, countVs] at he
    by_cases hm : most < n
    ·rw [if_pos hm] at he
     have hm' : ¬ n <= most := by omega
     simp only [go_sem, h, List.length_map, hm']
     rw [he]
    ·rw [if_neg hm] at he
     have hm' : n <= most := by omega
     have hmem : v.kids[i]! ∈ v.kids := mem_bangI h
     have hb := countV_bnd v.kids[i]! (most - n) (by omega)
     have hsz := kid_size hmem
     have hw1 : IntKind.i64.wrap (most - n) = most - n := wrap_in (by omega) (by omega)
     have hw2 : IntKind.i64.wrap (n + countV v.kids[i]! (most - n)) = n + countV v.kids[i]! (most - n) := wrap_in (by omega) (by omega)
     simp only [go_sem, h, hg, List.length_map, hm', hw1]
     refine CallU.free (ih v.kids[i]! (most - n) (by omega) (by omega) (by omega) (hv.kid hmem)) (by simp only [go_sem]) (by simp only [go_sem, vV_eq]) ?_
     rintro r bx rfl
     simp only [go_sem, hw, hw2]
     refine roundK.intro (i + 1, n + countV v.kids[i]! (most - n)) ⟨by show i + 1 <= _; omega, by show 1 <= n + _; omega, by show n + _ <= _; omega, he⟩ (by show _ - (i + 1) < _ - i; omega) ?_
     simp only [go_sem]
   ·rw [List.drop_eq_nil_of_le (by omega), countVs] at he
    simp only [go_sem, h, List.length_map]
    rw [he]
 exact key _ v most (Nat.le_refl _) h1 h2 hv
theorem con_rtypeOf16 (m : MD) (hp : m.places.length <= 1000000) (hk : m.kind = 1 \/ m.kind = 6) : Con Tryz.prog 77 [vM m] [] fun r _ => r = flatT 2 (partsP m.states.length m.places.length) := by
 refine Con.intro Tryz.func77 rfl Tryz.ntmps77 Tryz.results77 (by kernel_rfl) (by simp) 0 (by simp) ?_
 have b2 : (m.kind == 2) = false := beq_eq_false_iff_ne.2 (by omega)
 have b3 : (m.kind == 3) = false := beq_eq_false_iff_ne.2 (by omega)
 have b4 : (m.kind == 4) = false := beq_eq_false_iff_ne.2 (by omega)
 have b5 : (m.kind == 5) = false := beq_eq_false_iff_ne.2 (by omega)
 unfold vM cM
 simp only [go_sem, vss, List.length_map, b4, b5]
 refine LoopK.intro (fun i : Nat => ⟨96, [(1, .pb 0 0), (2, .pb 1 0), (3, .pb 2 0), (4, .pb 3 0), (8, vi i)], [vi m.kind, .sl 0 1 (m.states.map vStr), .sl 0 1 (m.places.map vStr), .sl 0 1 (m.letters.map vStr), vs 0 m.ranks, vi m.levels, vi m.age, .sl 0 14 (m.rules.map vRule), vi m.start.n, .sl 0 2 (m.start.kids.map vV)] :: [.any, .any, .any, .any] :: [vi 3, vi 0, .nil, .sl 960 4 ((partsP m.states.length i).map vPT)] :: [.any, .any, .any, .any] :: Rk 4 i⟩)
  (fun i => m.places.length - i) (fun i => i <= m.places.length) 0 (by omega) ?_ ?_
 ·simp only [go_sem, partsP, List.replicate_zero, List.map_cons, List.map_nil]
  all_goals exact leB_self _
 rintro i hi
 by_cases hlt : i < m.places.length
 ·have hw : IntKind.i64.wrap (i + 1) = i + 1 := wrap_in (by omega) (by omega)
  have hB := Rk_len 4 i
  have n0 := fun L : List (List AV) => app_at0 (L := L) hB
  have s0 := fun (L : List (List AV)) z => app_set0 (L := L) (z := z) hB
  have e := parts_succ m.states.length i
  simp only [go_sem, hlt, hw, hB, n0, s0, b2, b3, List.length_map]
  refine ⟨by simp only [roomFor, parts_len]; omega, ?_⟩
  refine roundK.intro (i + 1) (by omega) (by omega) ?_
  simp only [go_sem, Rk_succ, e, List.map_append, List.map_cons, List.map_nil]
  exact leB_RkA ⟨leC_any _ 4 rfl, trivial⟩
 ·obtain rfl : i = m.places.length := by omega
  simp only [go_sem, hlt, List.length_map]
def placeR (nl : Nat) : AV := .ag [vi 4, vi 0, .nil, .sl 0 4 [.ag [vi 2, vi nl, .nil, .nil]]]
theorem con_rtypeOf2 (m : MD) (hp : m.places.length <= 1000000) (hk : m.kind = 2) : Con Tryz.prog 77 [vM m] [] fun r _ => r = .ag [vi 3, vi 0, .nil, .sl 2 4 (.ag [vi 2, vi m.states.length, .nil, .nil] :: List.replicate m.places.length (placeR m.letters.length))] := by
 refine Con.intro Tryz.func77 rfl Tryz.ntmps77 Tryz.results77 (by kernel_rfl) (by simp) 0 (by simp) ?_
 unfold vM cM
 rw [hk]
 simp only [go_sem, vss, List.length_map]
 refine LoopK.intro (fun i : Nat => ⟨96, [(1, .pb 0 0), (2, .pb 1 0), (3, .pb 2 0), (4, .pb 3 0), (8, vi i)], [vi 2, .sl 0 1 (m.states.map vStr), .sl 0 1 (m.places.map vStr), .sl 0 1 (m.letters.map vStr), vs 0 m.ranks, vi m.levels, vi m.age, .sl 0 14 (m.rules.map vRule), vi m.start.n, .sl 0 2 (m.start.kids.map vV)] :: [.any, .any, .any, .any] :: [vi 3, vi 0, .nil, .sl 960 4 (.ag [vi 2, vi m.states.length, .nil, .nil] :: List.replicate i (placeR m.letters.length))] :: [vi 2, vi m.letters.length, .nil, .nil] :: Rk 4 i⟩)
  (fun i => m.places.length - i) (fun i => i <= m.places.length) 0 (by omega) ?_ ?_
 ·simp only [go_sem, List.replicate_zero]
  all_goals exact leB_self _
 rintro i hi
 by_cases hlt : i < m.places.length
 ·have hw : IntKind.i64.wrap (i + 1) = i + 1 := wrap_in (by omega) (by omega)
  have hB := Rk_len 4 i
  have n0 := fun L : List (List AV) => app_at0 (L := L) hB
  have s0 := fun (L : List (List AV)) z => app_set0 (L := L) (z := z) hB
  have e : List.replicate (i + 1) (placeR m.letters.length) = List.replicate i (placeR m.letters.length) ++ [placeR m.letters.length] := rep_succ _ _
  simp only [go_sem, hlt, hw, hB, n0, s0, List.length_map]
  refine ⟨by simp only [roomFor, List.length_replicate]; omega, ?_⟩
  refine roundK.intro (i + 1) (by omega) (by omega) ?_
  simp only [go_sem, Rk_succ, e]
  exact ⟨leV_refl _, leB_RkA ⟨leC_any _ 4 rfl, trivial⟩⟩
 ·obtain rfl : i = m.places.length := by omega
  simp only [go_sem, hlt, List.length_map]
def agesR (np : Nat) (a : Int) : AV := .ag [vi 5, vi 0, .nil, .sl 0 4 [.ag [vi 3, vi 0, .nil, .sl 0 4 [.ag [vi 2, vi np, .nil, .nil], .ag [vi 2, vi (a + 2), .nil, .nil]]]]]
theorem con_rtypeOf5 (m : MD) (ha : 0 <= m.age /\ m.age <= 1000000) (hk : m.kind = 5) : Con Tryz.prog 77 [vM m] [] fun r _ => r = .ag [vi 3, vi 0, .nil, .sl 2 4 [.ag [vi 2, vi m.states.length, .nil, .nil], agesR m.places.length m.age]] := by
 refine Con.intro Tryz.func77 rfl Tryz.ntmps77 Tryz.results77 (by kernel_rfl) (by simp) 0 (by simp) ?_
 have hw : IntKind.i64.wrap (m.age + 2) = m.age + 2 := wrap_in (by omega) (by omega)
 have hro : roomFor (1 + 1) 64 := by simp only [roomFor]; omega
 unfold vM cM agesR
 rw [hk]
 simp only [go_sem, vss, List.length_map, hw, List.length_cons, List.length_nil, hro]
end Go.AM
namespace Go.AM
end Go.AM
namespace Go.AM
open Go Go.Proofs Go.RowKit
set_option maxRecDepth 100000
theorem con_rcopy (l : List Int) (h2 : l.length <= 1000000) : Con Tryz.prog 132 [vs 0 l] [] fun r _ => r = vs 2 l := by
 refine Con.intro Tryz.func132 rfl Tryz.ntmps132 Tryz.results132 (by kernel_rfl) (by simp) 0 (by simp) ?_
 have hr : roomFor l.length 8 := by simp only [roomFor]; omega
 simp only [go_sem, List.length_map, hr]
set_option maxHeartbeats 8000000
def prioR (nl : Nat) (l : List Int) : AV := .ag [vi 7, vi nl, vs 0 l, .nil]
theorem con_rtypeOf3 (m : MD) (hp : m.places.length <= 1000000) (hr : m.ranks.length <= 1000000) (hk : m.kind = 3) : Con Tryz.prog 77 [vM m] [] fun r _ => r = .ag [vi 3, vi 0, .nil, .sl 2 4 (.ag [vi 2, vi m.states.length, .nil, .nil] :: List.replicate m.places.length (prioR m.letters.length m.ranks))] := by
 refine Con.intro Tryz.func77 rfl Tryz.ntmps77 Tryz.results77 (by kernel_rfl) (by simp) 0 (by simp) ?_
 unfold vM cM
 rw [hk]
 simp only [go_sem, vss, List.length_map]
 refine LoopK.intro (fun i : Nat => ⟨96, [(1, .pb 0 0), (2, .pb 1 0), (3, .pb 2 0), (4, .pb 3 0), (8, vi i)], [vi 3, .sl 0 1 (m.states.map vStr), .sl 0 1 (m.places.map vStr), .sl 0 1 (m.letters.map vStr), vs 0 m.ranks, vi m.levels, vi m.age, .sl 0 14 (m.rules.map vRule), vi m.start.n, .sl 0 2 (m.start.kids.map vV)] :: [.any, .any, .any, .any] :: [vi 3, vi 0, .nil, .sl 960 4 (.ag [vi 2, vi m.states.length, .nil, .nil] :: List.replicate i (prioR m.letters.length m.ranks))] :: [vi 2, vi m.letters.length, .nil, .nil] :: Rk 4 i⟩)
  (fun i => m.places.length - i) (fun i => i <= m.places.length) 0 (by omega) ?_ ?_
 ·simp only [go_sem, List.replicate_zero]
  all_goals exact leB_self _
 rintro i hi
 by_cases hlt : i < m.places.length
 ·have hw : IntKind.i64.wrap (i + 1) = i + 1 := wrap_in (by omega) (by omega)
  have hB := Rk_len 4 i
  have n0 := fun L : List (List AV) => app_at0 (L := L) hB
  have s0 := fun (L : List (List AV)) z => app_set0 (L := L) (z := z) hB
  have e : List.replicate (i + 1) (prioR m.letters.length m.ranks) = List.replicate i (prioR m.letters.length m.ranks) ++ [prioR m.letters.length m.ranks] := rep_succ _ _
  have cc := con_rcopy m.ranks hr
  simp only [go_sem, hlt, hB, n0, s0, List.length_map]
  refine DrawK.walk 7 mixed (by kernel_rfl) ?_
  simp only [go_sem]
  refine CallY.mk cc (by simp only [go_sem]) (by simp only [go_sem]) (.inl (by simp only [go_sem])) ?_
  simp only [go_sem, hw, n0, s0]
  refine ⟨by simp only [roomFor, List.length_replicate]; omega, ?_⟩
  refine roundK.intro (i + 1) (by omega) (by omega) ?_
  simp only [go_sem, Rk_succ, e]
  exact ⟨leV_refl _, leB_RkA ⟨leC_any _ 4 rfl, trivial⟩⟩
 ·obtain rfl : i = m.places.length := by omega
  simp only [go_sem, hlt, List.length_map]
def nodeR (nl : Nat) : Nat -> AV
 | 0 => .ag [vi 2, vi nl, .nil, .sl 0 4 []]
 | n + 1 => .ag [vi 3, vi 0, .nil, .sl 0 4 [.ag [vi 2, vi nl, .nil, .nil], .ag [vi 5, vi 0, .nil, .sl 0 4 [nodeR nl n]]]]
def nodeC (nl : Nat) : Nat -> List AV
 | 0 => [vi 2, vi nl, .nil, .sl 4224 4 []]
 | n + 1 => [vi 3, vi 0, .nil, .sl 4224 4 [.ag [vi 2, vi nl, .nil, .nil], .ag [vi 5, vi 0, .nil, .sl 0 4 [nodeR nl n]]]]
theorem nodeC_eq (nl n : Nat) : ∃ (k s : Int) (p : List AV), nodeC nl n = [vi k, vi s, .nil, .sl 4224 4 p] /\ nodeR nl n = .ag [vi k, vi s, .nil, .sl 0 4 p] := by cases n <;> exact ⟨_, _, _, rfl, rfl⟩
theorem con_rtypeOf4 (m : MD) (n : Nat) (hl : m.levels = (n + 1 : Nat)) (hn : n <= 100) (hk : m.kind = 4) : Con Tryz.prog 77 [vM m] [] fun r _ => r = .ag [vi 3, vi 0, .nil, .sl 2 4 [.ag [vi 2, vi m.states.length, .nil, .nil], .ag [vi 5, vi 0, .nil, .sl 0 4 [nodeR m.letters.length n]]]] := by
 refine Con.intro Tryz.func77 rfl Tryz.ntmps77 Tryz.results77 (by kernel_rfl) (by simp) 0 (by simp) ?_
 have hro : roomFor (1 + 1) 64 := by simp only [roomFor]; omega
 unfold vM cM
 rw [hk, hl]
 simp only [go_sem, vss, List.length_map]
 refine LoopK.intro (fun i : Nat => ⟨96, [(1, .pb 0 0), (2, .pb 1 0), (3, .pb 2 0), (4, .pb 3 0), (5, .pb 4 0), (6, vi ((i : Int) + 1))], [[vi 4, .sl 0 1 (m.states.map vStr), .sl 0 1 (m.places.map vStr), .sl 0 1 (m.letters.map vStr), vs 0 m.ranks, vi ((n : Int) + 1), vi m.age, .sl 0 14 (m.rules.map vRule), vi m.start.n, .sl 0 2 (m.start.kids.map vV)], [.any, .any, .any, .any], [vi 3, vi 0, .nil, .sl 960 4 [.ag [vi 2, vi m.states.length, .nil, .nil]]], [vi 2, vi m.letters.length, .nil, .nil], nodeC m.letters.length i]⟩)
  (fun i => n - i) (fun i => i <= n) 0 (by omega) ?_ ?_
 ·simp only [go_sem, nodeC]
  all_goals exact ⟨leV_int rfl, leV_nil 4224 4⟩
 rintro i hi
 obtain ⟨k, s, p, ec, er⟩ := nodeC_eq m.letters.length i
 by_cases hlt : i < n
 ·have hlt' : (i : Int) + 1 < (n : Int) + 1 := by omega
  have hw : IntKind.i64.wrap ((i : Int) + 1 + 1) = (i : Int) + 1 + 1 := wrap_in (by omega) (by omega)
  have e2 : nodeC m.letters.length (i + 1) = [vi 3, vi 0, .nil, .sl 4224 4 [.ag [vi 2, vi m.letters.length, .nil, .nil], .ag [vi 5, vi 0, .nil, .sl 0 4 [.ag [vi k, vi s, .nil, .sl 0 4 p]]]]] := by rw [nodeC, er]
  simp only [go_sem, hlt', hw, ec]
  refine roundK.intro (i + 1) (by omega) (by omega) ?_
  simp only [go_sem, e2]
 ·obtain rfl : i = n := by omega
  have hlt' : ¬ (i : Int) + 1 < (i : Int) + 1 := by omega
  rw [er]
  simp only [go_sem, hlt', ec, List.length_cons, List.length_nil, hro]
def ForT (x : AV) (t : TD) : Prop := PW Sub x.cells (vT t).cells
theorem ForT.leaf (k s : Int) : ForT (.ag [vi k, vi s, .nil, .nil]) (.mk k s [] []) := by
 unfold ForT; rw [vT_eq]
 exact PW.cons (Sub.refl _) (PW.cons (Sub.refl _) (PW.cons (Sub.nil 1) (PW.cons (Sub.nil 4) (PW.nil _))))
theorem ForT.leafS (k s : Int) : ForT (.ag [vi k, vi s, .nil, .sl 0 4 []]) (.mk k s [] []) := by
 unfold ForT; rw [vT_eq]
 exact PW.cons (Sub.refl _) (PW.cons (Sub.refl _) (PW.cons (Sub.nil 1) (PW.cons (Sub.refl _) (PW.nil _))))
theorem ForT.ranks (k s : Int) (l : List Int) : ForT (.ag [vi k, vi s, vs 0 l, .nil]) (.mk k s l []) := by
 unfold ForT; rw [vT_eq]
 exact PW.cons (Sub.refl _) (PW.cons (Sub.refl _) (PW.cons (Sub.refl _) (PW.cons (Sub.nil 4) (PW.nil _))))
inductive ForL : List AV -> List TD -> Prop
 | nil : ForL [] []
 | cons {x : AV} {t : TD} {xs : List AV} {l : List TD} : ForT x t -> ForL xs l -> ForL (x :: xs) (t :: l)
theorem ForL.len {xs : List AV} {l : List TD} (h : ForL xs l) : xs.length = (l.map vT).length := by
 induction h with
 | nil => rfl
 | cons _ _ ih => rw [List.length_cons, List.map_cons, List.length_cons, ih]
theorem ForL.flat {xs : List AV} {l : List TD} (h : ForL xs l) : PW Sub (AM.flat xs) (AM.flat (l.map vT)) := by
 induction h with
 | nil => exact PW.nil _
 | cons h _ ih =>
  rw [List.map_cons, flat_consL, flat_consL]
  exact PW.append h ih
theorem vT_cells (l : List TD) : ∀ y ∈ l.map vT, y.cells.length = 4 := fun y hy => by
 obtain ⟨t, _, rfl⟩ := List.mem_map.1 hy
 rw [vT_eq]; rfl
theorem ForT.parts (k s : Int) {xs : List AV} {l : List TD} (h : ForL xs l) : ForT (.ag [vi k, vi s, .nil, .sl 0 4 xs]) (.mk k s [] l) := by
 unfold ForT; rw [vT_eq]
 exact PW.cons (Sub.refl _) (PW.cons (Sub.refl _) (PW.cons (Sub.nil 1) (PW.cons (Sub.slE h.len (vT_cells l) h.flat) (PW.nil _))))
theorem ForL.rep {x : AV} {t : TD} (h : ForT x t) : ∀ n, ForL (List.replicate n x) (List.replicate n t)
 | 0 => .nil
 | n + 1 => by rw [List.replicate_succ, List.replicate_succ]; exact .cons h (ForL.rep h n)
theorem type_le {xs : List AV} {l : List TD} (h : ForL xs l) : leV (.ag [vi 3, vi 0, .nil, .sl 0 4 xs]) (vT (prodT l)) := by
 unfold prodT
 rw [vT_eq]
 exact leV_ag ⟨leV_refl _, leV_refl _, leV_nil 0 1, leV_slE h.len (vT_cells l) h.flat, trivial⟩
def nodeT (nl : Int) : Nat -> TD
 | 0 => labelT nl
 | n + 1 => prodT [labelT nl, listT 5 (nodeT nl n)]
theorem nodeR_for (nl : Nat) : ∀ n, ForT (nodeR nl n) (nodeT nl n)
 | 0 => ForT.leafS 2 nl
 | n + 1 => ForT.parts 3 0 (.cons (ForT.leaf 2 nl) (.cons (ForT.parts 5 0 (.cons (nodeR_for nl n) .nil)) .nil))
theorem nodes_node (nl : Int) : ∀ n, nodesT nl (n + 1) = listT 5 (nodeT nl n)
 | 0 => rfl
 | n + 1 => by rw [nodesT, nodes_node nl n]; rfl
theorem con_rtypeOfG (m : MD) (h : SizeM m) (hb : betweenB m.kind 1 6 = true) (hlv : m.kind = 4 -> 1 <= m.levels) : Con Tryz.prog 77 [vM m] [] fun r _ => r = vT (typeM m) := by
 have hlab : ForT (.ag [vi 2, vi m.states.length, .nil, .nil]) (labelT m.states.length) := ForT.leaf 2 _
 have fin : ∀ {xs : List AV} {l : List TD}, (Con Tryz.prog 77 [vM m] [] fun r _ => ∃ r0, r0 = (.ag [vi 3, vi 0, .nil, .sl 2 4 xs] : AV) /\ r = r0.freeze fun _ => true) -> typeM m = prodT l -> ForL xs l -> (.ag [vi 3, vi 0, .nil, .sl 2 4 xs] : AV).freeze (fun _ => true) = .ag [vi 3, vi 0, .nil, .sl 0 4 xs] -> Con Tryz.prog 77 [vM m] [] fun r _ => r = vT (typeM m) := fun hc e hf hz =>
  hc.weak fun r b ⟨r1, h3, h6⟩ => by
   subst h3; subst h6
   refine ⟨_, rfl, ?_⟩
   rw [e, hz]
   exact type_le hf
 have e0 : ∀ k, m.kind = k -> k ≠ 4 -> k ≠ 5 -> typeM m = prodT (labelT m.states.length :: List.replicate m.places.length (placeT m)) := fun k hk h4 h5 => by unfold typeM partsM; rw [if_neg (by omega), if_neg (by omega)]
 have ef : flatT 2 (partsP m.states.length m.places.length) = .ag [vi 3, vi 0, .nil, .sl 2 4 (.ag [vi 2, vi m.states.length, .nil, .nil] :: List.replicate m.places.length (.ag [vi 1, vi 0, .nil, .nil]))] := by
  unfold flatT partsP
  rw [List.map_cons, List.map_replicate]
  rfl
 rcases kind_cases hb with hk | hk | hk | hk | hk | hk
 ·have hc := con_rtypeOf16 m h.places (.inl hk)
  rw [ef] at hc
  refine fin (hc.freezeR fun _ => true) (e0 1 hk (by omega) (by omega)) (.cons hlab (ForL.rep (t := placeT m) ?_ _)) rfl
  unfold placeT; rw [if_neg (by omega), if_neg (by omega)]
  exact ForT.leaf 1 0
 ·refine fin ((con_rtypeOf2 m h.places hk).freezeR fun _ => true) (e0 2 hk (by omega) (by omega)) (.cons hlab (ForL.rep (t := placeT m) ?_ _)) rfl
  unfold placeT; rw [if_pos hk]
  exact ForT.parts 4 0 (.cons (ForT.leaf 2 _) .nil)
 ·refine fin ((con_rtypeOf3 m h.places h.ranks hk).freezeR fun _ => true) (e0 3 hk (by omega) (by omega)) (.cons hlab (ForL.rep (t := placeT m) ?_ _)) rfl
  unfold placeT; rw [if_neg (by omega), if_pos hk]
  exact ForT.ranks 7 _ _
 ·have hl := h.levels hk
  have h1 := hlv hk
  obtain ⟨n, hn⟩ : ∃ n : Nat, m.levels = (n + 1 : Nat) := ⟨(m.levels - 1).toNat, by omega⟩
  have e4 : typeM m = prodT [labelT m.states.length, listT 5 (nodeT m.letters.length n)] := by
   unfold typeM partsM
   rw [if_pos hk, hn, Int.toNat_natCast, nodes_node]
  exact fin ((con_rtypeOf4 m n hn (by omega) hk).freezeR fun _ => true) e4 (.cons hlab (.cons (ForT.parts 5 0 (.cons (nodeR_for _ n) .nil)) .nil)) rfl
 ·have hc := con_rtypeOf16 m h.places (.inr hk)
  rw [ef] at hc
  refine fin (hc.freezeR fun _ => true) (e0 6 hk (by omega) (by omega)) (.cons hlab (ForL.rep (t := placeT m) ?_ _)) rfl
  unfold placeT; rw [if_neg (by omega), if_neg (by omega)]
  exact ForT.leaf 1 0
 ·have e5 : typeM m = prodT [labelT m.states.length, listT 5 (prodT [labelT m.places.length, labelT (m.age + 2)])] := by
   unfold typeM partsM
   rw [if_neg (by omega), if_pos hk]
  exact fin ((con_rtypeOf5 m (by have := h.age hk; omega) hk).freezeR fun _ => true) e5 (.cons hlab (.cons (ForT.parts 5 0 (.cons (ForT.parts 3 0 (.cons (ForT.leaf 2 _) (.cons (ForT.leaf 2 _) .nil))) .nil)) .nil)) rfl
theorem ordI_anti (a b : Int) : ordI a b = - ordI b a := by unfold ordI; split <;> split <;> omega
mutual
theorem cmpV_anti : ∀ (a b : CV), cmpV a b = - cmpV b a
 | .mk n k, .mk m l => by
  by_cases h : n = m
  ·by_cases h2 : k.length = l.length
   ·have a : cmpV (.mk n k) (.mk m l) = cmpVs k l := by rw [cmpV, if_neg (fun h' => h' h), if_neg (fun h' => h' h2)]
    have b : cmpV (.mk m l) (.mk n k) = cmpVs l k := by rw [cmpV, if_neg (fun h' => h' h.symm), if_neg (fun h' => h' h2.symm)]
    rw [a, b, cmpVs_anti k l]
   ·have a : cmpV (.mk n k) (.mk m l) = ordI k.length l.length := by rw [cmpV, if_neg (fun h' => h' h), if_pos h2]
    have b : cmpV (.mk m l) (.mk n k) = ordI l.length k.length := by rw [cmpV, if_neg (fun h' => h' h.symm), if_pos (fun e => h2 e.symm)]
    rw [a, b, ordI_anti]
  ·have a : cmpV (.mk n k) (.mk m l) = ordI n m := by rw [cmpV, if_pos h]
   have b : cmpV (.mk m l) (.mk n k) = ordI m n := by rw [cmpV, if_pos (fun e => h e.symm)]
   rw [a, b, ordI_anti]
theorem cmpVs_anti : ∀ (k l : List CV), cmpVs k l = - cmpVs l k
 | [], [] => by simp [cmpVs]
 | [], _ :: _ => by simp [cmpVs]
 | _ :: _, [] => by simp [cmpVs]
 | x :: k, y :: l => by
  have h1 := cmpV_anti x y
  have h2 := cmpVs_anti k l
  rw [cmpVs, cmpVs]
  by_cases h : cmpV x y = 0
  ·rw [if_neg (fun h' => h' h), if_neg (fun h' => h' (by omega)), h2]
  ·rw [if_pos h, if_pos (by omega), h1]
end
theorem right_kind {d : Nat} {t : TD} (h : rightT d t = true) : t.kind = 1 \/ t.kind = 2 \/ t.kind = 3 \/ t.kind = 4 \/ t.kind = 5 \/ t.kind = 6 \/ t.kind = 7 := by
 cases d with
 | zero => simp [rightT] at h
 | succ d =>
  unfold rightT at h
  split at h
  ·cases h
  ·split at h
   ·omega
   ·split at h
    ·omega
    ·split at h
     ·omega
     ·split at h
      ·omega
      ·split at h
       ·omega
       ·cases h
theorem right_parts {d : Nat} {t : TD} (h : rightT d t = true) : ∀ x ∈ t.parts, rightT (d - 1) x = true := by
 cases d with
 | zero => simp [rightT] at h
 | succ d =>
  have hparts : t.parts = [] \/ ∀ x ∈ t.parts, rightT d x = true := by
   unfold rightT at h
   split at h
   ·cases h
   ·split at h
    ·simp at h; exact .inl h.1
    ·split at h
     ·simp at h; exact .inl h.1.1
     ·split at h
      ·simp at h; exact .inl h.1.1
      ·split at h
       ·right; intro x hx; simp at h; exact h.2 x hx
       ·split at h
        ·right; intro x hx; simp at h; exact h.2 x hx
        ·cases h
  intro x hx
  rcases hparts with hp | hp
  ·rw [hp] at hx; cases hx
  ·exact hp x hx
theorem allT_bad {l : List CV} {t : TD} {i : Nat} (h : i < l.length) (hb : oneT l[i]! t = false) : allT l t = false := by
 rw [allT_any, any_bad (p := fun x => !oneT x t) h (by rw [hb]; rfl)]; rfl
theorem allT_good {l : List CV} {t : TD} (h : ∀ i, i < l.length -> oneT l[i]! t = true) : allT l t = true := by
 rw [allT_any, any_ok (l := l) (p := fun x => !oneT x t) fun i hi => by rw [h i hi]; rfl]; rfl
theorem con_rnodes : ∀ (s : Nat) (v : CV) (size : Int), SizeOf.sizeOf v <= s -> v.Ok -> Con Tryz.prog 150 [vi size, vV v] [] fun r _ => r = vb (taggedV v size) := by
 intro s
 induction s with
 | zero => intro v _ hs; cases v; rw [CV.mk.sizeOf_spec] at hs; omega
 | succ s ih =>
  intro v size hs hv
  have hlen := hv.len
  rw [vV_eq, tagged_eq]
  refine Con.intro Tryz.func150 rfl Tryz.ntmps150 Tryz.results150 (by kernel_rfl) (by simp) 0 (by simp) ?_
  simp only [go_sem]
  refine LoopK.intro (fun i : Nat => ⟨30, [(0, vi size), (3, .pb 0 0), (5, vi i)], [[vi v.n, .sl 0 2 (v.kids.map vV)]]⟩)
   (fun i => v.kids.length - i) (fun i => i <= v.kids.length /\ ∀ j, j < i -> (!taggedV v.kids[j]! size) = false) 0 ⟨by omega, fun j hj => by omega⟩ ?_ ?_
  ·simp only [go_sem]
  rintro i ⟨hi, hj⟩
  by_cases h : i < v.kids.length
  ·have hg := getvV h
   have hw : IntKind.i64.wrap (i + 1) = i + 1 := wrap_in (by omega) (by omega)
   have hm : v.kids[i]! ∈ v.kids := mem_bangI h
   simp only [go_sem, h, hg]
   refine CallU.free (ih v.kids[i]! size (by have := kid_size hm; omega) (hv.kid hm)) (by simp only [go_sem]) (by simp only [go_sem, vV_eq]) ?_
   rintro r bx rfl
   cases hp : taggedV v.kids[i]! size
   ·have hb := any_bad (p := fun x => !taggedV x size) h (by rw [hp]; rfl)
    rw [hb]
    simp only [go_sem, Bool.not_true, Bool.and_false]
   simp only [go_sem, hw]
   refine roundK.intro (i + 1) ⟨by omega, fun j hj2 => ?_⟩ (by omega) ?_
   ·by_cases e : j = i
    ·rw [e, hp]; rfl
    ·exact hj j (by omega)
   simp only [go_sem]
  ·have hb := any_ok (l := v.kids) (p := fun x => !taggedV x size) fun j hj2 => hj j (by omega)
   rw [hb, Bool.not_false, Bool.and_true]
   by_cases h1 : 0 <= v.n
   ·simp only [go_sem, h, h1, decide_true, Bool.true_and]
   ·simp only [go_sem, h, h1, decide_false, Bool.false_and]
theorem con_rof : ∀ (s d : Nat) (v : CV) (t : TD), SizeOf.sizeOf v <= s -> v.Ok -> t.Ok -> rightT d t = true -> Con Tryz.prog 97 [vT t, vV v] [] fun r _ => r = vb (oneT v t) := by
 intro s
 induction s with
 | zero => intro d v t hs; cases v; rw [CV.mk.sizeOf_spec] at hs; omega
 | succ s ih =>
  intro d v t hs hv ht hr
  have hlen := hv.len
  have hpl := ht.plen
  have hf := right_fit d t hr
  have hkind := right_kind hr
  have e : oneT v t = if t.kind = 1 then decide (0 <= v.n) && decide (v.n <= 1048576) && v.kids.length == 0
   else if t.kind = 2 then decide (0 <= v.n) && decide (v.n < t.size) && v.kids.length == 0
   else if t.kind = 3 then v.n == 0 && decide (v.kids.length = t.parts.length) && zipT v.kids t.parts
   else if t.kind = 4 then v.n == 0 && decide (v.kids.length <= 12) && allT v.kids t.parts[0]!
   else if t.kind = 5 then v.n == 0 && decide (v.kids.length <= 12) && allT v.kids t.parts[0]! && sortedB v.kids
   else if t.kind = 6 then decide (countV v 12 <= 12) && taggedV v t.size
   else v.n == 0 && decide (v.kids.length <= 12) && !v.kids.any fun k => !labelB t.size k := by cases v; rw [oneT]; rfl
  have hzk : ((v.kids.length : Int) == 0) = (v.kids.length == 0) := zero_len _
  have hrec : ∀ x ∈ v.kids, ∀ p ∈ t.parts, Con Tryz.prog 97 [vT p, vV x] [] fun r _ => r = vb (oneT x p) := fun x hx p hp => ih (d - 1) x p (by have := kid_size hx; omega) (hv.kid hx) (ht.part hp) (right_parts hr p hp)
  have e0 := vV_eq v
  have e1 := vT_eq t
  rw [e, e0, e1]
  refine Con.intro Tryz.func97 rfl Tryz.ntmps97 Tryz.results97 (by kernel_rfl) (by simp) 0 (by simp) ?_
  by_cases k1 : t.kind = 1
  ·have b1 : (t.kind == 1) = true := beq_iff_eq.2 k1
   rw [if_pos k1]
   by_cases h1 : 0 <= v.n
   ·by_cases h2 : v.n <= 1048576
    ·simp only [go_sem, b1, h1, h2, hzk, List.length_map, decide_true, Bool.true_and]
    ·simp only [go_sem, b1, h1, h2, decide_true, decide_false, Bool.true_and, Bool.false_and]
   ·simp only [go_sem, b1, h1, decide_false, Bool.false_and]
  have b1 : (t.kind == 1) = false := beq_eq_false_iff_ne.2 k1
  rw [if_neg k1]
  by_cases k2 : t.kind = 2
  ·have b2 : (t.kind == 2) = true := beq_iff_eq.2 k2
   rw [if_pos k2]
   by_cases h1 : 0 <= v.n
   ·by_cases h2 : v.n < t.size
    ·simp only [go_sem, b1, b2, h1, h2, hzk, List.length_map, decide_true, Bool.true_and]
    ·simp only [go_sem, b1, b2, h1, h2, decide_true, decide_false, Bool.true_and, Bool.false_and]
   ·simp only [go_sem, b1, b2, h1, decide_false, Bool.false_and]
  have b2 : (t.kind == 2) = false := beq_eq_false_iff_ne.2 k2
  rw [if_neg k2]
  by_cases k6 : t.kind = 6
  ·have b6 : (t.kind == 6) = true := beq_iff_eq.2 k6
   rw [if_neg (by omega), if_neg (by omega), if_neg (by omega), if_pos k6]
   simp only [go_sem, b1, b2, b6]
   refine CallU.free (con_rcount v 12 (by omega) (by omega) hv) (by simp only [go_sem]) (by simp only [go_sem, e0]) ?_
   rintro r bx rfl
   by_cases hc : countV v 12 <= 12
   ·simp only [go_sem, hc]
    refine CallU.free (con_rnodes _ v t.size (Nat.le_refl _) hv) (by simp only [go_sem]) (by simp only [go_sem, e0]) ?_
    rintro r bx rfl
    simp only [go_sem, hc, decide_true, Bool.true_and]
   ·simp only [go_sem, hc, decide_false, Bool.false_and]
  have b6 : (t.kind == 6) = false := beq_eq_false_iff_ne.2 k6
  by_cases k3 : t.kind = 3
  ·have b3 : (t.kind == 3) = true := beq_iff_eq.2 k3
   rw [if_pos k3]
   cases hn : v.n == 0
   ·have hn' : (v.n != 0) = true := by unfold bne; rw [hn]; rfl
    simp only [go_sem, b1, b2, b6, b3, hn', Bool.false_and]
   have hn' : (v.n != 0) = false := by unfold bne; rw [hn]; rfl
   by_cases hl : v.kids.length = t.parts.length
   case neg =>
    have hl' : ((v.kids.length : Int) != (t.parts.length : Int)) = true := bne_iff_ne.2 (by omega)
    simp only [go_sem, b1, b2, b6, b3, hn', hl', hl, List.length_map, decide_false, Bool.and_false, Bool.false_and]
   have hl' : ((v.kids.length : Int) != (t.parts.length : Int)) = false := by rw [hl]; simp
   have hld : decide (v.kids.length = t.parts.length) = true := decide_eq_true hl
   rw [hld, Bool.true_and, Bool.true_and]
   simp only [go_sem, b1, b2, b6, b3, hn', hl', List.length_map]
   refine LoopK.intro (fun i : Nat => ⟨169, [(2, .pb 0 0), (3, .pb 1 0), (5, vi i)], [[vi t.kind, vi t.size, vs 0 t.ranks, .sl 0 4 (t.parts.map vT)], [vi v.n, .sl 0 2 (v.kids.map vV)]]⟩)
    (fun i => v.kids.length - i) (fun i => i <= v.kids.length /\ ∀ j, j < i -> oneT v.kids[j]! t.parts[j]! = true) 0 ⟨by omega, fun j hj => by omega⟩ ?_ ?_
   ·simp only [go_sem]
   rintro i ⟨hi, hb⟩
   by_cases h : i < v.kids.length
   ·have h2 : i < t.parts.length := by omega
    have hg := getvV h
    have hg2 := getvT h2
    have hw : IntKind.i64.wrap (i + 1) = i + 1 := wrap_in (by omega) (by omega)
    have hr := hrec _ (mem_bangI h) _ (mem_bangI h2)
    rw [vT_eq, vV_eq] at hr
    simp only [go_sem, h]
    refine DrawK.walk 12 mixed (by kernel_rfl) ?_
    simp only [go_sem, h, h2, hg, hg2]
    refine CallY.mk hr (by simp only [go_sem]) (by simp only [go_sem]) (.inl (by simp only [go_sem])) ?_
    cases hq : oneT v.kids[i]! t.parts[i]!
    ·simp only [go_sem, zipT_bad h h2 hq]
    ·simp only [go_sem, hw]
     refine roundK.intro (i + 1) ⟨by omega, fun j hj => ?_⟩ (by omega) ?_
     ·by_cases hji : j = i
      ·subst hji; exact hq
      ·exact hb j (by omega)
     ·simp only [go_sem]
   ·have ez : zipT v.kids t.parts = true := zipT_good hl fun j hj => hb j (by omega)
    simp only [go_sem, h, ez]
  have b3 : (t.kind == 3) = false := beq_eq_false_iff_ne.2 k3
  rw [if_neg k3, if_neg k6]
  cases hn : v.n == 0
  ·have hn' : (v.n != 0) = true := by unfold bne; rw [hn]; rfl
   simp only [go_sem, b1, b2, b6, b3, hn', Bool.false_and, ite_self]
  have hn' : (v.n != 0) = false := by unfold bne; rw [hn]; rfl
  by_cases h12 : v.kids.length <= 12
  case neg =>
   have h12' : (12 : Int) < (v.kids.length : Int) := by omega
   rw [decide_eq_false h12]
   simp only [go_sem, b1, b2, b6, b3, hn', h12', List.length_map, Bool.and_false, Bool.false_and, ite_self]
  have h12' : ¬ (12 : Int) < (v.kids.length : Int) := by omega
  rw [decide_eq_true h12, Bool.true_and, Bool.true_and]
  simp only [go_sem, b1, b2, b6, b3, hn', h12', List.length_map]
  by_cases k4 : t.kind = 4
  ·have b5 : (t.kind == 5) = false := beq_eq_false_iff_ne.2 (by omega)
   have b7 : (t.kind == 7) = false := beq_eq_false_iff_ne.2 (by omega)
   have hp1 := hf.one (.inl k4)
   have hp0 : 0 < t.parts.length := by omega
   have hg2 := getvT hp0
   rw [if_pos k4]
   refine LoopK.intro (fun i : Nat => ⟨169, [(2, .pb 0 0), (3, .pb 1 0), (6, vi i)], [[vi t.kind, vi t.size, vs 0 t.ranks, .sl 0 4 (t.parts.map vT)], [vi v.n, .sl 0 2 (v.kids.map vV)]]⟩)
    (fun i => v.kids.length - i) (fun i => i <= v.kids.length /\ ∀ j, j < i -> oneT v.kids[j]! t.parts[0]! = true) 0 ⟨by omega, fun j hj => by omega⟩ ?_ ?_
   ·simp only [go_sem]
   rintro i ⟨hi, hb⟩
   by_cases h : i < v.kids.length
   ·have hg := getvV h
    have hw : IntKind.i64.wrap (i + 1) = i + 1 := wrap_in (by omega) (by omega)
    have hr := hrec _ (mem_bangI h) _ (mem_bangI hp0)
    rw [vT_eq, vV_eq] at hr
    simp only [go_sem, h, b7]
    refine DrawK.walk 35 mixed (by kernel_rfl) ?_
    simp only [go_sem, h, hp0, hg, hg2]
    refine CallY.mk hr (by simp only [go_sem]) (by simp only [go_sem]) (.inl (by simp only [go_sem])) ?_
    cases hq : oneT v.kids[i]! t.parts[0]!
    ·simp only [go_sem, allT_bad h hq]
    ·simp only [go_sem, b5, hw]
     refine roundK.intro (i + 1) ⟨by omega, fun j hj => ?_⟩ (by omega) ?_
     ·by_cases hji : j = i
      ·subst hji; exact hq
      ·exact hb j (by omega)
     ·simp only [go_sem]
   ·have ez : allT v.kids t.parts[0]! = true := allT_good fun j hj => hb j (by omega)
    simp only [go_sem, h, ez]
  rw [if_neg k4]
  by_cases k5 : t.kind = 5
  ·have b5 : (t.kind == 5) = true := beq_iff_eq.2 k5
   have b7 : (t.kind == 7) = false := beq_eq_false_iff_ne.2 (by omega)
   have hp1 := hf.one (.inr k5)
   have hp0 : 0 < t.parts.length := by omega
   have hg2 := getvT hp0
   rw [if_pos k5]
   refine LoopK.intro (fun i : Nat => ⟨169, [(2, .pb 0 0), (3, .pb 1 0), (6, vi i)], [[vi t.kind, vi t.size, vs 0 t.ranks, .sl 0 4 (t.parts.map vT)], [vi v.n, .sl 0 2 (v.kids.map vV)]]⟩)
    (fun i => v.kids.length - i) (fun i => i <= v.kids.length /\ ∀ j, j < i -> oneT v.kids[j]! t.parts[0]! = true /\ (j ≠ 0 -> ¬ cmpV v.kids[j]! v.kids[j - 1]! < 0)) 0 ⟨by omega, fun j hj => by omega⟩ ?_ ?_
   ·simp only [go_sem]
   rintro i ⟨hi, hb⟩
   by_cases h : i < v.kids.length
   ·have hg := getvV h
    have hw : IntKind.i64.wrap (i + 1) = i + 1 := wrap_in (by omega) (by omega)
    have hr := hrec _ (mem_bangI h) _ (mem_bangI hp0)
    rw [vT_eq, vV_eq] at hr
    simp only [go_sem, h, b7]
    refine DrawK.walk 35 mixed (by kernel_rfl) ?_
    simp only [go_sem, h, hp0, hg, hg2]
    refine CallY.mk hr (by simp only [go_sem]) (by simp only [go_sem]) (.inl (by simp only [go_sem])) ?_
    cases hq : oneT v.kids[i]! t.parts[0]!
    ·simp only [go_sem, allT_bad h hq, Bool.false_and]
    by_cases h0 : 0 < i
    ·have h2 : i - 1 < v.kids.length := by omega
     have hg3 := getvV h2
     have hw2 : IntKind.i64.wrap ((i : Int) - 1) = ((i - 1 : Nat) : Int) := by rw [wrap_in (by omega) (by omega)]; omega
     have hc := con_rcompare _ v.kids[i - 1]! v.kids[i]! (Nat.le_refl _) (hv.kid (mem_bangI h2)) (hv.kid (mem_bangI h))
     rw [vV_eq v.kids[i - 1]!, vV_eq v.kids[i]!] at hc
     have han := cmpV_anti v.kids[i]! v.kids[i - 1]!
     simp only [go_sem, b5, h0, h, h2, hg, hg3, hw2]
     refine CallY.mk hc (by simp only [go_sem]) (by simp only [go_sem]) (.inl (by simp only [go_sem])) ?_
     by_cases hneg : cmpV v.kids[i]! v.kids[i - 1]! < 0
     ·have hneg' : 0 < cmpV v.kids[i - 1]! v.kids[i]! := by omega
      simp only [go_sem, hneg', sorted_bad h (by omega) hneg, Bool.and_false]
     ·have hneg' : ¬ 0 < cmpV v.kids[i - 1]! v.kids[i]! := by omega
      simp only [go_sem, hneg', hw]
      refine roundK.intro (i + 1) ⟨by omega, fun j hj => ?_⟩ (by omega) ?_
      ·by_cases hji : j = i
       ·subst hji; exact ⟨hq, fun _ => hneg⟩
       ·exact hb j (by omega)
      ·simp only [go_sem]
    ·have h0' : i = 0 := by omega
     simp only [go_sem, b5, h0, hw]
     refine roundK.intro (i + 1) ⟨by omega, fun j hj => ?_⟩ (by omega) ?_
     ·by_cases hji : j = i
      ·subst hji; exact ⟨hq, fun h => absurd h0' h⟩
      ·exact hb j (by omega)
     ·simp only [go_sem]
   ·have ez : allT v.kids t.parts[0]! = true := allT_good fun j hj => (hb j (by omega)).1
    have es : sortedB v.kids = true := sorted_good fun j hj hj0 => (hb j (by omega)).2 hj0
    simp only [go_sem, h, ez, es, Bool.true_and]
  rw [if_neg k5]
  have b7 : (t.kind == 7) = true := beq_iff_eq.2 (by omega)
  refine LoopK.intro (fun i : Nat => ⟨169, [(2, .pb 0 0), (3, .pb 1 0), (6, vi i)], [[vi t.kind, vi t.size, vs 0 t.ranks, .sl 0 4 (t.parts.map vT)], [vi v.n, .sl 0 2 (v.kids.map vV)]]⟩)
   (fun i => v.kids.length - i) (fun i => i <= v.kids.length /\ ∀ j, j < i -> (!labelB t.size v.kids[j]!) = false) 0 ⟨by omega, fun j hj => by omega⟩ ?_ ?_
  ·simp only [go_sem]
  rintro i ⟨hi, hb⟩
  by_cases h : i < v.kids.length
  ·have hg := getvV h
   have hw : IntKind.i64.wrap (i + 1) = i + 1 := wrap_in (by omega) (by omega)
   have hbad : labelB t.size v.kids[i]! = false -> (v.kids.any fun k => !labelB t.size k) = true := fun h3 => any_bad (p := fun k => !labelB t.size k) h (by rw [h3]; rfl)
   simp only [go_sem, h, b7]
   refine DrawK.walk 28 mixed (by kernel_rfl) ?_
   simp only [go_sem, h, hg]
   by_cases h1 : v.kids[i]!.n < 0
   ·rw [hbad (by unfold labelB; rw [decide_eq_false (by omega)]; rfl)]
    simp only [go_sem, h1, Bool.not_true]
   by_cases h2 : t.size <= v.kids[i]!.n
   ·rw [hbad (by unfold labelB; rw [decide_eq_false (show ¬ v.kids[i]!.n < t.size by omega), Bool.and_false]; rfl)]
    simp only [go_sem, h1, h2, h, hg, Bool.not_true]
   by_cases h3 : 0 < v.kids[i]!.kids.length
   ·rw [hbad (by unfold labelB; rw [show (v.kids[i]!.kids.length == 0) = false from beq_eq_false_iff_ne.2 (by omega), Bool.and_false])]
    simp only [go_sem, h1, h2, h3, h, hg, List.length_map, Bool.not_true]
   simp only [go_sem, h1, h2, h3, h, hg, List.length_map, hw]
   refine roundK.intro (i + 1) ⟨by omega, fun j hj => ?_⟩ (by omega) ?_
   ·by_cases hji : j = i
    ·subst hji
     unfold labelB
     rw [decide_eq_true (show 0 <= v.kids[j]!.n by omega), decide_eq_true (show v.kids[j]!.n < t.size by omega), show (v.kids[j]!.kids.length == 0) = true from beq_iff_eq.2 (by omega)]; rfl
    ·exact hb j (by omega)
   ·simp only [go_sem]
  ·have ez : (v.kids.any fun k => !labelB t.size k) = false := any_ok (p := fun k => !labelB t.size k) fun j hj => hb j (by omega)
   simp only [go_sem, h, ez, Bool.not_false]
theorem con_rtValid (t : TD) (v : CV) (ht : t.Ok) (hv : v.Ok) : Con Tryz.prog 39 [vT t, vV v] [] fun r _ => r = vb (validV t v) := by
 have e0 := vV_eq v
 have e1 := vT_eq t
 rw [e0, e1]
 refine Con.intro Tryz.func39 rfl Tryz.ntmps39 Tryz.results39 (by kernel_rfl) (by simp) 0 (by simp) ?_
 have hc := con_rtCheckG t ht
 unfold checkT at hc
 unfold validV
 simp only [go_sem]
 refine CallU.free hc (by simp only [go_sem]) (by simp only [go_sem, e1]) ?_
 rintro r bx rfl
 cases hr : rightT 8 t
 ·simp only [go_sem, Bool.false_eq_true, if_false, Bool.false_and]
 simp only [go_sem, if_true]
 refine CallU.free (con_rcount v 128 (by omega) (by omega) hv) (by simp only [go_sem]) (by simp only [go_sem, e0]) ?_
 rintro r bx rfl
 by_cases h : countV v 128 <= 128
 ·simp only [go_sem, h]
  refine CallU.free (con_rof _ 8 v t (Nat.le_refl _) hv ht hr) (by simp only [go_sem]) (by simp only [go_sem, e0, e1]) ?_
  rintro r bx rfl
  simp only [go_sem, h, decide_true, Bool.true_and]
 ·simp only [go_sem, h, decide_false, Bool.true_and, Bool.false_and]
theorem sized_levels {m : MD} (h : sizedB m = true) : m.kind = 4 -> 1 <= m.levels := fun hk => by
 unfold sizedB betweenB at h
 simp only [Bool.and_eq_true, decide_eq_true_eq] at h
 have h5 := h.1.2
 rw [hk] at h5
 have : lim 4 4 = 1 /\ lim 4 5 = 2 := by decide
 omega
theorem con_rCheckG (m : MD) (h : LenM m) : Con Tryz.prog 22 [vM m] [] fun r _ => r = vi (checkF m) := by
 have e1 : vM m = .ag [vi m.kind, vss m.states, vss m.places, vss m.letters, vs 0 m.ranks, vi m.levels, vi m.age, .sl 0 14 (m.rules.map vRule), vi m.start.n, .sl 0 2 (m.start.kids.map vV)] := rfl
 have hl := names_lens h
 rw [e1]
 refine Con.intro Tryz.func22 rfl Tryz.ntmps22 Tryz.results22 (by kernel_rfl) (by simp) 0 (by simp) ?_
 unfold checkF
 simp only [go_sem, vss]
 refine CallU.free (con_rbetween m.kind 1 6) (by simp only [go_sem]) (by simp only [go_sem]) ?_
 rintro r bx rfl
 cases h1 : betweenB m.kind 1 6
 ·simp only [go_sem, if_true]
 simp only [go_sem, if_false]
 refine CallU.free (con_rnumbersG m h1) (by simp only [go_sem]) (by simp only [go_sem, vss]) ?_
 rintro r bx rfl
 cases h2 : sizedB m
 ·simp only [go_sem, if_true]
 simp only [go_sem, if_false]
 refine CallU.free (con_rranksG m h.ranks) (by simp only [go_sem]) (by simp only [go_sem, vss]) ?_
 rintro r bx rfl
 cases h3 : rankedB m
 ·simp only [go_sem, if_true]
 have hz := sized_lim h2
 have hsz := sized_size h h2 h3
 have hRM : RightM m := ⟨hl.1, hl.2.1, hl.2.2.1, fun hk => by have := hz.2.2.1 hk; omega⟩
 simp only [go_sem, if_false]
 refine CallU.free (con_rnamesG m hz.1 h.names h.sizes) (by simp only [go_sem]) (by simp only [go_sem, vss]) ?_
 rintro r bx rfl
 cases h4 : namesB (namesOf m)
 ·simp only [go_sem, if_true]
 simp only [go_sem, if_false]
 refine LoopK.intro (fun i : Nat => ⟨52, [(1, .pb 0 0), (3, vi i)], [[vi m.kind, vss m.states, vss m.places, vss m.letters, vs 0 m.ranks, vi m.levels, vi m.age, .sl 0 14 (m.rules.map vRule), vi m.start.n, .sl 0 2 (m.start.kids.map vV)]]⟩)
  (fun i => m.rules.length - i) (fun i => i <= m.rules.length /\ ∀ j, j < i -> (!rightR m m.rules[j]!) = false) 0 ⟨by omega, fun j hj => by omega⟩ ?_ ?_
 ·simp only [go_sem, vss]
 rintro i ⟨hi, hj⟩
 by_cases hlt : i < m.rules.length
 ·have hg := getRule hlt
  have hw : IntKind.i64.wrap (i + 1) = i + 1 := wrap_in (by omega) (by omega)
  simp only [go_sem, hlt, vss]
  refine DrawK.walk 8 mixed (by kernel_rfl) ?_
  simp only [go_sem, hlt, hg]
  refine CallY.mk (con_rrightG m m.rules[i]! hRM (h.rules _ (mem_bangI hlt)) h1 h2) (by simp only [go_sem, vss]) (by simp only [go_sem]) (.inl (by simp only [go_sem])) ?_
  cases hq : rightR m m.rules[i]!
  ·rw [any_bad (p := fun r => !rightR m r) hlt (by rw [hq]; rfl)]
   simp only [go_sem, if_true]
  simp only [go_sem, hw]
  refine roundK.intro (i + 1) ⟨by omega, fun j hj2 => ?_⟩ (by omega) ?_
  ·by_cases e : j = i
   ·rw [e, hq]; rfl
   ·exact hj j (by omega)
  simp only [go_sem]
 ·have hok := any_ok (l := m.rules) (p := fun r => !rightR m r) fun j hj2 => hj j (by omega)
  rw [hok]
  unfold beginsF
  by_cases k6 : m.kind = 6
  ·have b6 : (m.kind == 6) = true := beq_iff_eq.2 k6
   rw [if_pos k6]
   cases hn : m.start.n == 0
   ·have hn' : (m.start.n != 0) = true := by unfold bne; rw [hn]; rfl
    simp only [go_sem, hlt, b6, hn', Bool.false_and, if_true, Bool.false_eq_true, if_false]
   have hn' : (m.start.n != 0) = false := by unfold bne; rw [hn]; rfl
   by_cases hk0 : 0 < m.start.kids.length
   ·have hb : (m.start.kids.length == 0) = false := beq_eq_false_iff_ne.2 (by omega)
    simp only [go_sem, hlt, b6, hn', hk0, hb, List.length_map, Bool.and_false, if_true, Bool.false_eq_true, if_false]
   ·have hb : (m.start.kids.length == 0) = true := beq_iff_eq.2 (by omega)
    simp only [go_sem, hlt, b6, hn', hk0, hb, List.length_map, Bool.and_self, Bool.true_eq_false, Bool.false_eq_true, if_false]
  have b6 : (m.kind == 6) = false := beq_eq_false_iff_ne.2 k6
  rw [if_neg k6]
  have ct := con_rtypeOfG m hsz.1 h1 (sized_levels h2)
  have cv := con_rtValid (typeM m) m.start (type_ok hsz.1 hsz.2) h.start
  have e2 := vT_eq (typeM m)
  rw [e2] at ct cv
  rw [vV_eq] at cv
  simp only [go_sem, hlt, b6, vss]
  refine DrawK.walk 6 mixed (by kernel_rfl) ?_
  simp only [go_sem]
  refine CallY.mk ct (by simp only [go_sem, vss]) (by simp only [go_sem]) (.inl (by simp only [go_sem])) ?_
  simp only [go_sem]
  refine CallY.mk cv (by simp only [go_sem]) (by simp only [go_sem]) (.inr (by simp only [go_sem])) ?_
  cases validV (typeM m) m.start
  ·simp only [go_sem, if_true, if_false]
  ·simp only [go_sem, Bool.true_eq_false, if_false]
def zeroT : TD := .mk 0 0 [] []
def typeF (m : MD) : TD := if checkF m = 0 then typeM m else zeroT
theorem con_rTypeG (m : MD) (h : LenM m) : Con Tryz.prog 26 [vM m] [] fun r _ => r = .tup [vT (typeF m), vi (checkF m)] := by
 have e1 : vM m = .ag [vi m.kind, vss m.states, vss m.places, vss m.letters, vs 0 m.ranks, vi m.levels, vi m.age, .sl 0 14 (m.rules.map vRule), vi m.start.n, .sl 0 2 (m.start.kids.map vV)] := rfl
 have cc := con_rCheckG m h
 have key : Con Tryz.prog 26 [vM m] [] fun r _ => r = .tup [if checkF m = 0 then vT (typeM m) else .ag [vi 0, vi 0, .nil, .nil], vi (checkF m)] := by
  rw [e1]
  refine Con.intro Tryz.func26 rfl Tryz.ntmps26 Tryz.results26 (by kernel_rfl) (by simp) 0 (by simp) ?_
  simp only [go_sem, vss]
  refine CallU.free cc (by simp only [go_sem]) (by simp only [go_sem, vss]) ?_
  rintro r bx rfl
  by_cases h0 : checkF m = 0
  ·have hz := checkF_zero h0
   have hsz := sized_size h hz.2.1 hz.2.2.1
   have ct := con_rtypeOfG m hsz.1 hz.1 (sized_levels hz.2.1)
   have e2 := vT_eq (typeM m)
   rw [e2] at ct
   rw [if_pos h0, h0]
   simp only [go_sem]
   refine CallU.free ct (by simp only [go_sem]) (by simp only [go_sem, vss]) ?_
   rintro r bx rfl
   simp only [go_sem, e2]
  ·have hn : (checkF m != 0) = true := bne_iff_ne.2 h0
   rw [if_neg h0]
   simp only [go_sem, hn]
 refine key.weak fun r b hr => ⟨_, rfl, ?_⟩
 subst hr
 unfold typeF
 by_cases h0 : checkF m = 0
 ·rw [if_pos h0, if_pos h0]; exact leV_refl _
 ·rw [if_neg h0, if_neg h0, vT_eq]
  show leV _ (.tup [.ag [vi 0, vi 0, vs 0 [], .sl 0 4 []], vi (checkF m)])
  exact leV_tup ⟨leV_ag ⟨leV_refl _, leV_refl _, leV_nil 0 1, leV_nil 0 4, trivial⟩, leV_refl _, trivial⟩
theorem con_rValidG (m : MD) (c : CV) (h : LenM m) (hc : c.Ok) : Con Tryz.prog 38 [vM m, vV c] [] fun r _ => r = vb (confG m c) := by
 have e1 : vM m = .ag [vi m.kind, vss m.states, vss m.places, vss m.letters, vs 0 m.ranks, vi m.levels, vi m.age, .sl 0 14 (m.rules.map vRule), vi m.start.n, .sl 0 2 (m.start.kids.map vV)] := rfl
 have e0 := vV_eq c
 have cc := con_rCheckG m h
 rw [e0, e1]
 refine Con.intro Tryz.func38 rfl Tryz.ntmps38 Tryz.results38 (by kernel_rfl) (by simp) 0 (by simp) ?_
 by_cases h0 : checkF m = 0
 ·have hz := checkF_zero h0
  have hsz := sized_size h hz.2.1 hz.2.2.1
  have ct := con_rtypeOfG m hsz.1 hz.1 (sized_levels hz.2.1)
  have cv := con_rtValid (typeM m) c (type_ok hsz.1 hsz.2) hc
  have e2 := vT_eq (typeM m)
  have hg : confG m c = validV (typeM m) c := by unfold confG; rw [decide_eq_true h0, Bool.true_and]
  rw [h0] at cc
  rw [e2] at ct cv
  rw [hg]
  rw [e0] at cv
  simp only [go_sem, vss]
  refine DrawK.walk 10 mixed (by kernel_rfl) ?_
  simp only [go_sem]
  refine CallY.mk cc (by simp only [go_sem, vss]) (by simp only [go_sem]) (.inl (by simp only [go_sem])) ?_
  simp only [go_sem]
  refine CallY.mk ct (by simp only [go_sem, vss]) (by simp only [go_sem]) (.inl (by simp only [go_sem])) ?_
  simp only [go_sem]
  refine CallY.mk cv (by simp only [go_sem]) (by simp only [go_sem]) (.inr (by simp only [go_sem])) ?_
  simp only [go_sem]
 ·have hg : confG m c = false := by unfold confG; rw [decide_eq_false h0, Bool.false_and]
  have hn := checkF_ne h0
  rw [hg]
  simp only [go_sem, vss]
  refine DrawK.walk 10 mixed (by kernel_rfl) ?_
  simp only [go_sem]
  refine CallY.mk cc (by simp only [go_sem, vss]) (by simp only [go_sem]) (.inl (by simp only [go_sem])) ?_
  simp only [go_sem, hn]
def withC (s : Int) (l : List CV) : CV := .mk 0 (.mk s [] :: l)
end Go.AM
namespace Go.AM
theorem mod_set {α : Type} {f : α -> α} : ∀ {L : List α} {i : Nat} {a : α}, L[i]? = some a -> L.modify i f = L.set i (f a)
 | [], _, _, h => by simp at h
 | x :: L, 0, a, h => by
  have : x = a := by simpa using h
  subst this; rfl
 | x :: L, i + 1, a, h => by
  have := mod_set (f := f) (L := L) (i := i) (a := a) (by simpa using h)
  rw [List.modify_succ_cons, this]; rfl
end Go.AM
