/- TK TL TM TN TO TP -/
import Derived.Test.YtapjfgddbfneaaaGreatg24
import Derived.Test.YtapjfgddbfneaaaGreatg21
namespace Go.AM
open Go Go.Proofs Go.RowKit
set_option maxRecDepth 100000
set_option maxHeartbeats 8000000
theorem con_growInt0 : Con Tryz.prog 68 [.nil, vi 0] [] fun r _ => r = .nil := by
 refine Con.intro Tryz.func68 rfl Tryz.ntmps68 Tryz.results68 (by kernel_rfl) (by simp) 0 (by simp) ?_
 have hz : IntKind.i64.wrap 0 = 0 := wrap_in (by omega) (by omega)
 have hz2 : IntKind.i64.wrap (0 - 0) = 0 := wrap_in (by omega) (by omega)
 simp only [go_sem, hz]
theorem con_concatInt0 (ls : List (List Int)) (h1 : ls.flatten.length = 0) (hl : ls.length <= 1000000) : Con Tryz.prog 42 [.sl 0 1 (ls.map (vs 0))] [] fun r _ => r = .sl 2 1 (ls.flatten.map vi) := by
 refine Con.intro Tryz.func42 rfl Tryz.ntmps42 Tryz.results42 (by kernel_rfl) (by simp) 0 (by simp) ?_
 simp only [go_sem]
 refine LoopK.intro (fun i : Nat => ⟨36, [(0, .sl 0 1 (ls.map (vs 0))), (2, .nil), (3, vi (sumL ls i)), (9, .sl 0 1 (ls.map (vs 0))), (10, vi ls.length), (11, vi i)], []⟩)
  (fun i => ls.length - i) (fun i => i <= ls.length) 0 (by omega) ?_ ?_
 ·simp only [go_sem, sumL_zero]
  all_goals exact leV_refl _
 rintro i hi
 have hm := sumL_mono (ls := ls) (i := i)
 have h2 : ls.flatten.length <= 1000000 := by omega
 by_cases h : i < ls.length
 ·have hg := getRowI h
  have hw : IntKind.i64.wrap (i + 1) = i + 1 := wrap_in (by omega) (by omega)
  have hm2 := sumL_mono (ls := ls) (i := i + 1)
  have hs := sumL_succ h
  have hw2 : IntKind.i64.wrap ((sumL ls i : Int) + (ls[i]!.length : Int)) = (sumL ls (i + 1) : Int) := by rw [wrap_in (by omega) (by omega)]; omega
  have a1 : ¬ ((sumL ls (i + 1) : Int) < 0) := by omega
  simp only [go_sem, h, hg, hw, hw2, a1]
  refine roundK.intro (i + 1) (by omega) (by omega) ?_
  simp only [go_sem]
 ·obtain rfl : i = ls.length := by omega
  have e : sumL ls ls.length = ls.flatten.length := by unfold sumL; rw [List.take_length, <- List.length_flatten]
  rw [h1] at e
  simp only [go_sem, h, e]
  refine CallU.free con_growInt0 (by simp only [go_sem]) (by simp only [go_sem]) ?_
  rintro r bx rfl
  simp only [go_sem]
  refine LoopK.intro (fun i : Nat => ⟨36, [(0, .sl 0 1 (ls.map (vs 0))), (2, .nil), (6, .sl 1602 1 (((ls.take i).flatten).map vi)), (25, .sl 0 1 (ls.map (vs 0))), (26, vi ls.length), (27, vi i)], []⟩)
   (fun i => ls.length - i) (fun i => i <= ls.length) 0 (by omega) ?_ ?_
  ·simp only [go_sem, List.take_zero, List.flatten_nil, List.map_nil]
   all_goals exact leV_refl _
  rintro i hi
  by_cases h : i < ls.length
  ·have hg := getRowI h
   have hw : IntKind.i64.wrap (i + 1) = i + 1 := wrap_in (by omega) (by omega)
   have hm2 := sumL_mono (ls := ls) (i := i + 1)
   have hs := sumL_succ h
   have hf := flat_succ h
   have el : (ls.take i).flatten.length = sumL ls i := by unfold sumL; rw [List.length_flatten]
   simp only [go_sem, h, hg, hw]
   refine ⟨by simp only [roomFor, el]; omega, ?_⟩
   refine roundK.intro (i + 1) (by omega) (by omega) ?_
   simp only [go_sem, hf, List.map_append]
  ·obtain rfl : i = ls.length := by omega
   simp only [go_sem, h, List.take_length]
theorem con_concat2 (b a : List Int) (h : b.length + a.length <= 1000) : Con Tryz.prog 42 [.sl 0 1 [vs 0 b, vs 0 a]] [] fun r _ => r = vs 0 (b ++ a) := by
 have e : [b, a].flatten = b ++ a := by simp
 by_cases h0 : (b ++ a).length = 0
 ·exact (Con.freezeR (fun _ => true) (con_concatInt0 [b, a] (by rw [e]; exact h0) (by simp))).weak fun r x ⟨r0, h1, h2⟩ => by
   subst h1; subst h2
   rw [e]
   exact ⟨_, rfl, leV_refl _⟩
 ·exact (Con.freezeR (fun _ => true) (con_concatInt [b, a] (by rw [e]; omega) (by rw [e, List.length_append]; omega) (by simp))).weak fun r x ⟨r0, h1, h2⟩ => by
   subst h1; subst h2
   rw [e]
   exact ⟨_, rfl, leV_refl _⟩
theorem walk_len (rules : List RD) : ∀ (x : SV) (ks : List Int), (walkF rules x ks).2.2.length <= ks.length
 | x, [] => by simp [walkF]
 | x, k :: ks => by
  unfold walkF
  split
  ·split
   ·simp
   ·have := walk_len rules (rules[k.toNat]!.dst, fireO rules[k.toNat]! x.2) ks
    simp only [List.length_cons]; omega
  ·simp
def growA (g : Int × List Int) : AV := if g.1 = 0 then .tup [vs 2 g.2, vi 0] else .tup [.nil, vi g.1]
def growN (v w : List Int) (i : Nat) : List Int := ((List.range i).filter fun i => decide (v[i]! < w[i]!)).map Int.ofNat
theorem grow_all (v w : List Int) : growN v w w.length = growL v w := rfl
theorem growN_zero (v w : List Int) : growN v w 0 = [] := rfl
theorem growN_len (v w : List Int) (i : Nat) : (growN v w i).length <= i := by
 unfold growN
 have := List.length_filter_le (fun i => decide (v[i]! < w[i]!)) (List.range i)
 rw [List.length_range] at this
 rw [List.length_map]; exact this
theorem growN_succ {v w : List Int} {i : Nat} : growN v w (i + 1) = growN v w i ++ (if v[i]! < w[i]! then [(i : Int)] else []) := by
 unfold growN
 rw [List.range_succ, List.filter_append, List.map_append]
 congr 1
 by_cases hh : v[i]! < w[i]!
 ·rw [if_pos hh, List.filter_cons, if_pos (decide_eq_true hh)]; rfl
 ·rw [if_neg hh, List.filter_cons, if_neg (by simpa using hh)]; rfl
theorem con_grows (m : MD) (v0 : List Int) (b a : List Int) (h : PlainM m 0 v0) (hb : ∀ k ∈ b, 0 <= k /\ k < m.rules.length) (ha : ∀ k ∈ a, 0 <= k /\ k < m.rules.length) (hl : b.length + a.length <= 64) :
  Con Tryz.prog 17 [vM m, .ag [vs 0 b, vs 0 a]] [] fun x _ => x = growA (growsF m.rules (0, v0) b a) := by
 refine Con.intro Tryz.func17 rfl Tryz.ntmps17 Tryz.results17 (by kernel_rfl) (by simp) 0 (by simp) ?_
 have h1 := h.good.states
 have h2 := h.good.places
 have h3 := h.good.few
 have hfin0 : finV m.places.length v0 := ⟨h.conf.len, h.conf.low⟩
 have hab : ∀ k ∈ b ++ a, 0 <= k /\ k < m.rules.length := fun k hk => by
  rcases List.mem_append.1 hk with hk | hk
  ·exact hb k hk
  ·exact ha k hk
 have hwl : IntKind.i64.wrap ((b.length : Int) + a.length) = b.length + a.length := wrap_in (by omega) (by omega)
 have h64 : ¬ (64 : Int) < (b.length : Int) + a.length := by omega
 have hg5 : ∀ r ∈ m.rules, 0 <= r.dst /\ r.dst < m.states.length /\ ∀ i, i < m.places.length -> 0 <= r.give[i]! := fun r hr => by
  have f := (h.fine r hr).right
  have g := plain_slim h r hr
  unfold RightR at f
  exact ⟨f.2.2.1, f.2.2.2.1, fun i hi => (g.low i hi).2.2.1⟩
 simp only [go_sem, vM, cM, vss]
 refine CallU.free (con_fstartF m v0 h) (by simp only [go_sem]) (by simp only [go_sem, vM, cM, vss]) ?_
 rintro r bx rfl
 simp only [go_sem, hwl, h64, List.length_map]
 refine CallU.freeze (con_concat2 b a (by omega)) (by simp only [go_sem]) (by simp only [go_sem]) ?_
 rintro r bx rfl
 simp only [go_sem]
 refine LoopK.intro (fun i : Nat => ⟨119, [(2, .pb 0 0), (3, .pb 1 0), (39, vs 0 (b ++ a)), (40, vi (b ++ a).length), (41, vi i)], [cM m, [vs 0 b, vs 0 a], [.sl 0 4 [vND (rootN v0)], vi 0]]⟩) (fun i => (b ++ a).length - i) (fun i => i <= (b ++ a).length) 0 (by omega) ?_ ?_
 ·simp only [go_sem, cM, vss]
  all_goals first | exact leV_refl _ | exact leB_self _ | exact ⟨leV_refl _, leB_self _⟩
 rintro i hi
 by_cases hlt : i < (b ++ a).length
 ·have hg := getv hlt
  have hk := hab _ (mem_bangI hlt)
  have hw : IntKind.i64.wrap ((i : Int) + 1) = i + 1 := wrap_in (by omega) (by rw [List.length_append] at hlt; omega)
  have a1 : ¬ (b ++ a)[i]! < 0 := by omega
  have a2 : ¬ (m.rules.length : Int) <= (b ++ a)[i]! := by omega
  generalize b ++ a = c at *
  simp only [go_sem, cM, vss, hlt, hg, a1, a2, hw, List.length_map]
  refine roundK.intro (i + 1) (by omega) (by omega) ?_
  simp only [go_sem]
  all_goals first | exact leV_refl _ | exact leB_self _ | exact ⟨leV_refl _, leB_self _⟩
 simp only [go_sem, cM, vss, hlt]
 refine CallU.news (bx0 := []) (con_bstart m v0 h) (by simp only [go_sem]) (by simp only [go_sem]) (by simp only [go_sem]) (by simp only [go_sem, vM, cM, vss]) (by simp only [go_sem]) ?_
 rintro r bx ⟨rfl, rfl⟩
 simp only [go_sem, cM, vss]
 refine CallU.own (i := 4) (is := []) (bx0 := [walkC m 0 v0 .nil]) (con_walk m v0 0 v0 b [] .nil h ⟨by omega, by omega⟩ hfin0 hb (by omega) (by simp) (leV_nil _ _)) (by simp only [go_sem]) (by simp only [go_sem, vss]) [] (by simp only [go_sem, vss]) (by simp only [go_sem, vss]) (by simp only [go_sem]) (by simp only [go_sem, vss]) ?_
 rintro x bb ⟨rfl, rfl⟩
 obtain ⟨p, hp⟩ : ∃ p, walkF m.rules (0, v0) b = p := ⟨_, rfl⟩
 have hG : growsF m.rules (0, v0) b a = if p.1 ≠ 0 then (p.1, []) else
   if (walkF m.rules p.2.1 a).1 ≠ 0 then ((walkF m.rules p.2.1 a).1, []) else
   if (walkF m.rules p.2.1 a).2.1.1 ≠ p.2.1.1 \/ atB p.2.1.2 (walkF m.rules p.2.1 a).2.1.2 = false then (43, []) else
   if (growL p.2.1.2 (walkF m.rules p.2.1 a).2.1.2).length = 0 then (11, []) else (0, growL p.2.1.2 (walkF m.rules p.2.1 a).2.1.2) := by rw [<- hp]; rfl
 have hlen1 := walk_len m.rules (0, v0) b
 rw [hp] at hlen1 ⊢
 rw [hG]
 simp only [go_sem, vss]
 by_cases hp0 : p.1 = 0
 case neg =>
  have hp0' : (p.1 != 0) = true := bne_iff_ne.2 hp0
  have e : growA (p.1, []) = .tup [.nil, vi p.1] := by unfold growA; rw [if_neg hp0]
  rw [if_pos hp0, e]
  simp only [go_sem, hp0']
 have hp0' : (p.1 != 0) = false := by rw [hp0]; rfl
 have w1 := walk_run hg5 (ks := b) (x := (0, v0)) (y := p.2.1) (st := p.2.2) hb ⟨Int.le_refl _, by show (0 : Int) < _; omega⟩ hfin0 (by rw [hp]; exact Prod.ext hp0 rfl)
 rw [if_neg (by rw [hp0]; simp)]
 simp only [go_sem, hp0']
 refine DrawK.walk 10 mixed (by kernel_rfl) ?_
 simp only [go_sem]
 obtain ⟨e0, y, st1⟩ := p
 simp only at hlen1 w1
 obtain ⟨s1, v1⟩ := y
 have hv1 := w1.2.1
 have hs1 := w1.2.2
 simp only at hv1 hs1
 have hv1l := hv1.1
 refine CallU.own (i := 4) (is := []) (bx0 := [walkC m s1 v1 (.sl 3906 3 (st1.map vStep))]) (con_walk m v0 s1 v1 a st1 (.sl 2 3 (st1.map vStep)) h hs1 hv1 ha (by omega) (by omega) (leV_refl _)) (by simp only [go_sem]) (by simp only [go_sem, vss]) [3906] (by simp only [go_sem, vss]) (by simp only [go_sem, vss]) (by simp only [go_sem]) (by simp only [go_sem, vss]) ?_
 rintro x bb ⟨rfl, rfl⟩
 obtain ⟨q, hq⟩ : ∃ q, walkF m.rules (s1, v1) a = q := ⟨_, rfl⟩
 rw [hq]
 simp only [go_sem, vss]
 by_cases hq0 : q.1 = 0
 case neg =>
  have hq0' : (q.1 != 0) = true := bne_iff_ne.2 hq0
  have e : growA (q.1, []) = .tup [.nil, vi q.1] := by unfold growA; rw [if_neg hq0]
  rw [if_pos hq0, e]
  simp only [go_sem, hq0']
 have hq0' : (q.1 != 0) = false := by rw [hq0]; rfl
 have w2 := walk_run hg5 (ks := a) (x := (s1, v1)) (y := q.2.1) (st := q.2.2) ha hs1 hv1 (by rw [hq]; exact Prod.ext hq0 rfl)
 rw [if_neg (by rw [hq0]; simp)]
 obtain ⟨e1, z, st2⟩ := q
 obtain ⟨s2, w⟩ := z
 have hw2 := w2.2.1
 simp only at hw2
 have hwl2 := hw2.1
 have e43 : growA (43, []) = .tup [.nil, vi 43] := rfl
 by_cases hs : s2 = s1
 case neg =>
  have hs' : (s2 != s1) = true := bne_iff_ne.2 hs
  rw [if_pos (.inl hs), e43]
  simp only [go_sem, hq0', hs']
 have hs' : (s2 != s1) = false := by rw [hs]; simp
 simp only [go_sem, hq0', hs']
 refine CallU.free (con_atMost v1 w (by omega) (by omega)) (by simp only [go_sem]) (by simp only [go_sem]) ?_
 rintro x bx rfl
 cases hat : atB v1 w
 ·rw [if_pos (.inr rfl), e43]
  simp only [go_sem]
 rw [if_neg (by simp [hs])]
 simp only [go_sem]
 refine LoopK.intro (fun i : Nat => ⟨119, [(13, vs 0 v1), (15, .sl 1024 1 ((growN v1 w i).map vi)), (97, vs 0 w), (98, vi w.length), (99, vi i)], [cM m, [vs 0 b, vs 0 a], [.sl 0 4 [vND (rootN v0)], vi 0], cM m, [.any, .any, .any, .any, .any, .any, .any, .any, .any, .any, .any, .any, .any]]⟩) (fun i => w.length - i) (fun i => i <= w.length) 0 (by omega) ?_ ?_
 ·simp only [go_sem, cM, vss, growN_zero, List.map_nil]
  all_goals first | exact leV_refl _ | exact leB_self _ | exact ⟨leV_refl _, leB_self _⟩ | skip
 rintro i hi
 have hfl := growN_len v1 w i
 by_cases hlt2 : i < w.length
 case neg =>
  obtain rfl : i = w.length := by omega
  rw [grow_all] at hfl ⊢
  by_cases hz : (growL v1 w).length = 0
  ·have hz' : (((growL v1 w).length : Int) == 0) = true := beq_iff_eq.2 (by omega)
   have e11 : growA (11, []) = .tup [.nil, vi 11] := rfl
   rw [if_pos hz, e11]
   simp only [go_sem, hlt2, hz', List.length_map]
  ·have hz' : (((growL v1 w).length : Int) == 0) = false := beq_eq_false_iff_ne.2 (by omega)
   have e0 : growA (0, growL v1 w) = .tup [vs 2 (growL v1 w), vi 0] := rfl
   rw [if_neg hz, e0]
   simp only [go_sem, hlt2, hz', List.length_map]
 have hg := getv hlt2
 have hlt3 : i < v1.length := by omega
 have hg' := getv hlt3
 have hwi : IntKind.i64.wrap ((i : Int) + 1) = i + 1 := wrap_in (by omega) (by omega)
 have hgt := growN_succ (v := v1) (w := w) (i := i)
 by_cases hc : v1[i]! < w[i]!
 ·rw [if_pos hc] at hgt
  have hro : roomFor ((growN v1 w i).length + 1) 8 := by simp only [roomFor]; omega
  simp only [go_sem, hlt2, hlt3, hg, hg', hc, hwi, hro, List.length_map]
  refine roundK.intro (i + 1) (by omega) (by omega) ?_
  simp only [go_sem, hgt, List.map_append, List.map_cons, List.map_nil]
  all_goals first | exact leV_refl _ | exact leB_self _ | exact ⟨leV_refl _, leB_self _⟩
 ·rw [if_neg hc, List.append_nil] at hgt
  simp only [go_sem, hlt2, hlt3, hg, hg', hc, hwi]
  refine roundK.intro (i + 1) (by omega) (by omega) ?_
  simp only [go_sem, hgt]
  all_goals first | exact leV_refl _ | exact leB_self _ | exact ⟨leV_refl _, leB_self _⟩
def upR : RD := bareR ⟨#[114]⟩ 0 0 [0] [1] []
def upM : MD := dealM 1 1 [upR] [0]
theorem deal_up : DealM 1 1 [upR] [0] := by
 refine ⟨by omega, by omega, by simp, rfl, fun r hr => ?_, rfl, fun x hx => ?_⟩
 ·rw [List.mem_singleton] at hr
  subst hr
  refine ⟨rfl, ⟨Int.le_refl _, by show (0 : Int) < 1; omega⟩, ⟨Int.le_refl _, by show (0 : Int) < 1; omega⟩, ⟨rfl, fun x hx => ?_⟩, ⟨rfl, fun x hx => ?_⟩⟩
  ·have : x = 0 := List.mem_singleton.1 hx
   omega
  ·have : x = 1 := List.mem_singleton.1 hx
   omega
 ·have : x = 0 := List.mem_singleton.1 hx
  omega
theorem plain_up : PlainM upM 0 [0] := deal_plain deal_up
theorem con_up0 : Con Tryz.prog 22 [] [] fun r _ => r = .ag [vi 1, .sl 2 1 [vStr ⟨#[97]⟩], .sl 3 1 [vStr ⟨#[120]⟩], .nil, .nil, vi 0, vi 0, .sl 4 14 [ruleN upR], vi 0, .sl 5 2 [kidN 0, kidN 0]] := by
 refine Con.intro Tryz.func22 rfl Tryz.ntmps22 Tryz.results22 (by kernel_rfl) (by simp) 0 (by simp) ?_
 simp only [go_sem, upR]
theorem con_up : Con Tryz.prog 22 [] [] fun r _ => r = vM upM :=
 (Con.freezeR (fun _ => true) con_up0).weak fun r b ⟨r0, h0, h1⟩ => by
  subst h0; subst h1
  exact ⟨_, rfl, model_le (m := upM) plain_up.good (fun r hr => by rw [List.mem_singleton.1 hr]; rfl) rfl⟩
def rowsK (y : List Int) (k : Nat) : List AV := List.replicate k (vs 0 y) ++ List.replicate (5 - k) .nil
theorem con_repeatS (y : List Int) : Con Tryz.prog 50 [.sl 0 1 [vs 0 y], vi 5] [] fun r _ => r = .sl 2 1 [vs 0 y, vs 0 y, vs 0 y, vs 0 y, vs 0 y] := by
 refine Con.intro Tryz.func50 rfl Tryz.ntmps50 Tryz.results50 (by kernel_rfl) (by simp) 0 (by simp) ?_
 have w1 : IntKind.u64.wrap (1 : Int) = 1 := by kernel_rfl
 have w2 : IntKind.u64.wrap (5 : Int) = 5 := by kernel_rfl
 have w3 : IntKind.i64.wrap (5 : Int) = 5 := by kernel_rfl
 simp only [go_sem, w1, w2]
 refine CallU.free (con_mul 5 (by omega)) (by simp only [go_sem]) (by simp only [go_sem]) ?_
 rintro r bx rfl
 simp only [go_sem, w3]
 refine ⟨by simp, ?_⟩
 have e1 : rowsK y 1 = [.sl 0 1 (y.map vi), .nil, .nil, .nil, .nil] := rfl
 have e2 : rowsK y 2 = [.sl 0 1 (y.map vi), .sl 0 1 (y.map vi), .nil, .nil, .nil] := rfl
 have e4 : rowsK y 4 = [.sl 0 1 (y.map vi), .sl 0 1 (y.map vi), .sl 0 1 (y.map vi), .sl 0 1 (y.map vi), .nil] := rfl
 have e5 : rowsK y 5 = [.sl 0 1 (y.map vi), .sl 0 1 (y.map vi), .sl 0 1 (y.map vi), .sl 0 1 (y.map vi), .sl 0 1 (y.map vi)] := rfl
 have wk : ∀ a b : Int, -9223372036854775808 <= a + b -> a + b < 9223372036854775808 -> IntKind.i64.wrap (a + b) = a + b := fun a b h1 h2 => wrap_in (by omega) (by omega)
 refine LoopK.intro (fun k : Nat => ⟨48, [(7, .sl 1984 1 (rowsK y k)), (8, vi k)], []⟩) (fun k => 5 - k) (fun k => k = 1 \/ k = 2 \/ k = 4 \/ k = 5) 1 (.inl rfl) ?_ ?_
 ·simp only [go_sem, e1]
  exact ⟨leV_refl _, leV_refl _⟩
 rintro k hk
 rcases hk with rfl | rfl | rfl | rfl
 ·simp only [go_sem, e1, List.length_cons, List.length_nil]
  refine DrawK.front [0] 7 mixed (by kernel_rfl) ?_
  simp only [go_sem, List.length_cons, List.length_nil, List.take]
  refine roundK.intro 2 (.inr (.inl rfl)) (by omega) ?_
  have ew : IntKind.i64.wrap (1 + ((min 1 4 : Nat) : Int)) = 2 := by kernel_rfl
  simp only [go_sem, e2, ew]
  all_goals exact leV_refl _
 ·simp only [go_sem, e2, List.length_cons, List.length_nil]
  refine DrawK.front [0] 7 mixed (by kernel_rfl) ?_
  simp only [go_sem, List.length_cons, List.length_nil, List.take]
  refine roundK.intro 4 (.inr (.inr (.inl rfl))) (by omega) ?_
  have ew : IntKind.i64.wrap (2 + ((min 2 3 : Nat) : Int)) = 4 := by kernel_rfl
  simp only [go_sem, e4, ew]
  all_goals exact leV_refl _
 ·simp only [go_sem, e4, List.length_cons, List.length_nil]
  refine DrawK.front [0] 7 mixed (by kernel_rfl) ?_
  simp only [go_sem, List.length_cons, List.length_nil, List.take]
  refine roundK.intro 5 (.inr (.inr (.inr rfl))) (by omega) ?_
  have ew : IntKind.i64.wrap (4 + ((min 4 1 : Nat) : Int)) = 5 := by kernel_rfl
  simp only [go_sem, e5, ew]
  all_goals exact leV_refl _
 ·simp only [go_sem, e5, List.length_cons, List.length_nil]
def stU (k : Nat) : List StD := (List.range k).map fun j : Nat => ⟨0, 0, [((j + 1 : Nat) : Int)]⟩
theorem stU_len (k : Nat) : (stU k).length = k := by simp [stU]
theorem stU_succ (k : Nat) : stU (k + 1) = stU k ++ [⟨0, 0, [((k + 1 : Nat) : Int)]⟩] := by unfold stU; rw [List.range_succ, List.map_append]; rfl
theorem up_walk {k : Nat} (h : k < 5) : walkF upM.rules (0, [(k : Int)]) [0] = (0, (0, [((k + 1 : Nat) : Int)]), [⟨0, 0, [((k + 1 : Nat) : Int)]⟩]) := by
 obtain rfl | rfl | rfl | rfl | rfl : k = 0 \/ k = 1 \/ k = 2 \/ k = 3 \/ k = 4 := by omega
 all_goals rfl
theorem up_grows : growsF upM.rules (0, [0]) [] [0] = (0, [0]) := by decide +kernel
def repTree : Tr := .front 0 (.front 3 (.front 6 (.front 10 (.alt (.one 1 (.alt (.one 2 (.one 4 (.one 5 (.one 7 (.one 8 (.one 9 .done)))))) (.one 4 (.alt (.one 2 (.one 5 (.one 7 (.one 8 (.one 9 .done))))) (.one 5 (.alt (.one 2 (.one 7 (.one 8 (.one 9 .done)))) (.one 7 (.one 2 (.one 8 (.one 9 .done)))))))))) (.one 4 (.alt (.one 1 (.alt (.one 2 (.one 5 (.one 7 (.one 8 (.one 9 .done))))) (.one 5 (.alt (.one 2 (.one 7 (.one 8 (.one 9 .done)))) (.one 7 (.one 2 (.one 8 (.one 9 .done)))))))) (.one 5 (.alt (.one 1 (.alt (.one 2 (.one 7 (.one 8 (.one 9 .done)))) (.one 7 (.one 2 (.one 8 (.one 9 .done)))))) (.one 7 (.one 1 (.one 2 (.one 8 (.one 9 .done)))))))))))))
theorem con_brepeat : Con Tryz.prog 20 [vM upM, .ag [vs 0 [], vs 0 [0]], vi 5] [] fun x _ => x = .tup [.sl 2 3 ((stU 5).map vStep), vi 0] := by
 refine Con.intro Tryz.func20 rfl Tryz.ntmps20 Tryz.results20 (by kernel_rfl) (by simp) 0 (by simp) ?_
 have hP := plain_up
 have hrl : upM.rules.length = 1 := rfl
 have hsl : upM.states.length = 1 := rfl
 have hpl : upM.places.length = 1 := rfl
 have hg := con_grows upM [0] [] [0] hP (by simp) (fun k hk => by rw [List.mem_singleton.1 hk, hrl]; omega) (by simp)
 rw [up_grows, show growA (0, [0]) = .tup [vs 2 [0], vi 0] from rfl] at hg
 have hst := con_bstart upM [0] hP
 have hrow : ∀ k ∈ [(0 : Int)], 0 <= k /\ k < upM.rules.length := fun k hk => by rw [List.mem_singleton.1 hk, hrl]; omega
 have hwk : ∀ k : Nat, k < 5 -> _ := fun k hk => con_walk upM [0] 0 [(k : Int)] [0] (stU k) (.sl 2 3 ((stU k).map vStep)) hP ⟨Int.le_refl _, by rw [hsl]; omega⟩ ⟨rfl, fun x hx => by rw [List.mem_singleton.1 hx]; omega⟩ hrow (by simp) (by rw [stU_len]; omega) (leV_refl _)
 have hW : ∀ k : Nat, k < 5 -> walkF upM.rules (0, [(k : Int)]) [0] = (0, (0, [((k + 1 : Nat) : Int)]), [⟨0, 0, [((k + 1 : Nat) : Int)]⟩]) := fun k hk => up_walk hk
 have hwk0 := con_walk upM [0] 0 [0] [] (stU 0) (.sl 2 3 ((stU 0).map vStep)) hP ⟨Int.le_refl _, by rw [hsl]; omega⟩ ⟨rfl, fun x hx => by rw [List.mem_singleton.1 hx]; omega⟩ (fun k hk => by cases hk) (by simp) (by rw [stU_len]; omega) (leV_refl _)
 generalize upM = m at *
 simp only [go_sem, vM, cM, vss]
 refine CallU.free hg (by simp only [go_sem]) (by simp only [go_sem, vM, cM, vss]) ?_
 rintro r bx rfl
 have q1 : IntKind.i64.wrap ((IntKind.i64.wrap 64).tdiv 1) = 64 := by kernel_rfl
 simp only [go_sem, List.length_nil, List.length_cons, q1]
 refine CallU.news (bx0 := []) hst (by simp only [go_sem]) (by simp only [go_sem]) (by simp only [go_sem]) (by simp only [go_sem, vM, cM, vss]) (by simp only [go_sem]) ?_
 rintro r bx ⟨rfl, rfl⟩
 simp only [go_sem, cM, vss]
 refine DrawK.meet ⟨64, [(10, .pb 3 0), (47, .sl 2688 1 [vs 0 [], vs 0 [0], vs 0 [0], vs 0 [0], vs 0 [0], vs 0 [0]]), (48, vi 6), (49, vi 0)], [cM m, [vs 0 [], vs 0 [0]], cM m, walkC m 0 [0] .nil]⟩ ?_ ?_
 ·refine DrawK.tree repTree mixed (by kernel_rfl) ?_
  unfold repTree
  simp only [go_sem, List.length_cons, List.length_nil]
  have hro : roomFor 6 24 := by simp only [roomFor]; omega
  repeat' (first | with_reducible apply andK_mk | (refine CallU.freeze (con_repeatS [0]) (by simp only [go_sem]) (by simp only [go_sem, List.map_cons, List.map_nil]) ?_; rintro r bx rfl; simp only [go_sem, cM, vss, hro, List.length_cons, List.length_nil]) | simp only [go_sem, List.length_cons, List.length_nil])
 simp only [go_sem, cM, vss]
 have e0 : stU 0 = [] := rfl
 refine LoopK.intro (fun i : Nat => ⟨64, [(10, .pb 3 0), (47, .sl 2688 1 [vs 0 [], vs 0 [0], vs 0 [0], vs 0 [0], vs 0 [0], vs 0 [0]]), (48, vi 6), (49, vi i)], [cM m, [vs 0 [], vs 0 [0]], cM m, walkC m 0 [((i - 1 : Nat) : Int)] (.sl 1026 3 ((stU (i - 1)).map vStep))]⟩) (fun i => 6 - i) (fun i => i <= 6) 0 (by omega) ?_ ?_
 ·simp only [go_sem, cM, vss, e0, List.map_nil, Nat.zero_sub, List.map_cons]
 rintro i hi
 have hwi : i < 6 -> IntKind.i64.wrap ((i : Int) + 1) = i + 1 := fun h => wrap_in (by omega) (by omega)
 cases i with
 | zero =>
  have hw0 : IntKind.i64.wrap (0 + 1) = 1 := by kernel_rfl
  have hw1 : IntKind.i64.wrap 1 = 1 := by kernel_rfl
  simp only [go_sem, cM, vss, List.map_nil, List.map_cons]
  refine CallU.own (i := 3) (is := []) (bx0 := [walkC m 0 [0] (.sl 1026 3 ((stU 0).map vStep))]) hwk0 (by simp only [go_sem]) (by simp only [go_sem, vss]) [1026] (by simp only [go_sem, vss]) (by simp only [go_sem, vss]) (by simp only [go_sem, List.map_nil]) (by simp only [go_sem, vss]) ?_
  rintro x bb ⟨rfl, rfl⟩
  simp only [go_sem, cM, vss, walkF, List.append_nil]
  refine roundK.mv 3586 1026 (by omega) (by omega) (by omega) 1 (by omega) (by omega) ?_
  simp only [go_sem, hw1]
  exact leV_refl _
 | succ k =>
  by_cases hk : k < 5
  case neg =>
   obtain rfl : k = 5 := by omega
   simp only [go_sem, cM, vss]
  have hgr : ([AV.sl 0 1 [AV.sc (.int .i64 0)], AV.sl 0 1 [AV.sc (.int .i64 0)], AV.sl 0 1 [AV.sc (.int .i64 0)], AV.sl 0 1 [AV.sc (.int .i64 0)], AV.sl 0 1 [AV.sc (.int .i64 0)]])[k]? = some (AV.sl 0 1 [AV.sc (.int .i64 0)]) := by
   obtain rfl | rfl | rfl | rfl | rfl : k = 0 \/ k = 1 \/ k = 2 \/ k = 3 \/ k = 4 := by omega
   all_goals rfl
  have hk6 : (k : Int) + 1 < 6 := by omega
  have hk6' : k + 1 < 6 := by omega
  have hwi2 : IntKind.i64.wrap ((k : Int) + 1 + 1) = k + 1 + 1 := wrap_in (by omega) (by omega)
  have hwkk := hwk k hk
  rw [hW k hk] at hwkk
  have ht : ((k : Int) + 1).toNat = k + 1 := by omega
  have h0 : (0 : Int) <= (k : Int) + 1 := by omega
  simp only [go_sem, cM, vss, List.map_nil, List.map_cons, hgr, hk6, ht, h0]
  refine CallU.own (i := 3) (is := []) (bx0 := [walkC m 0 [(k : Int)] (.sl 1026 3 ((stU k).map vStep))]) hwkk (by simp only [go_sem]) (by simp only [go_sem, vss, Nat.add_sub_cancel]) [1026] (by simp only [go_sem, vss]) (by simp only [go_sem, vss]) (by simp only [go_sem, List.map_nil, List.map_cons]) (by simp only [go_sem, vss]) ?_
  rintro x bb ⟨rfl, rfl⟩
  simp only [go_sem, vss, hwi2]
  refine roundK.mv 3586 1026 (by omega) (by omega) (by omega) (k + 1 + 1) (by omega) (by omega) ?_
  simp only [go_sem, cM, vss, List.map_nil, List.map_cons, Nat.add_sub_cancel, stU_succ, List.map_append]
  exact leV_refl _
theorem up_holds0 : holdsL upM.rules [(0, [Om])] 0 [0] = 0 := by decide +kernel
theorem up_holds1 : holdsL upM.rules [(0, [9])] 0 [0] = 41 := by decide +kernel
theorem up_bound : boundR [(0, [3]), (0, [5])] 0 = .tup [vi 5, vb true] := by
 unfold boundR
 rw [show boundB [(0, [3]), (0, [5])] 0 = true by decide +kernel, if_pos rfl, show mostF [(0, [3]), (0, [5])] ((0 : Int).toNat) = 5 by decide +kernel]
theorem stU_four : ((stU 5).map vStep)[4]? = some (.ag [vi 0, vi 0, .sl 0 2 [.ag [vi 0, .sl 0 2 []], .ag [vi 5, .sl 0 2 []]]]) := by
 show some (vStep ⟨0, 0, [5]⟩) = _
 simp only [vStep, cfgC, CV.kids, List.map_cons, List.map_nil, vV_eq, CV.n]
 rfl
theorem pw2_le {G : Nat -> Status} {w : World} {x a b : AV} (h : leV a b) {vs : List Value} (hv : PW (VRel G w) [x, a] vs) : PW (VRel G w) [x, b] vs := by
 refine ⟨hv.1, fun j y u hy hu => ?_⟩
 match j, hy with
 | 0, hy => exact hv.2 0 y u hy hu
 | 1, hy =>
  cases hy
  exact (hv.2 1 a u rfl hu).le h
 | j + 2, hy => cases hy
theorem pw3_le {G : Nat -> Status} {w : World} {x a b z : AV} (h : leV a b) {vs : List Value} (hv : PW (VRel G w) [x, a, z] vs) : PW (VRel G w) [x, b, z] vs := by
 refine ⟨hv.1, fun j y u hy hu => ?_⟩
 match j, hy with
 | 0, hy => exact hv.2 0 y u hy hu
 | 1, hy =>
  cases hy
  exact (hv.2 1 a u rfl hu).le h
 | 2, hy => exact hv.2 2 y u hy hu
 | j + 3, hy => cases hy
theorem con_sane29 : Con Tryz.prog 7 [] [] fun x _ => x = vb true := by
 refine Con.intro Tryz.func7 rfl Tryz.ntmps7 Tryz.results7 (by kernel_rfl) (by simp) 0 (by simp) ?_
 have hP := plain_up
 have hrl : upM.rules.length = 1 := rfl
 have hsl : upM.states.length = 1 := rfl
 have hg := con_grows upM [0] [] [0] hP (by simp) (fun k hk => by rw [List.mem_singleton.1 hk, hrl]; omega) (by simp)
 rw [up_grows, show growA (0, [0]) = .tup [vs 2 [0], vi 0] from rfl] at hg
 have hrp := con_brepeat
 have hlen5 : ((stU 5).map vStep).length = 5 := rfl
 have h4 := stU_four
 have hb := con_bound [(0, [3]), (0, [5])] 0 (by simp)
 rw [up_bound] at hb
 have hh0 := con_bholds upM [0] [(0, [Om])] hP (fun y hy => by rw [List.mem_singleton.1 hy]; exact ⟨Int.le_refl _, by rw [hsl]; show (0 : Int) < 1; omega, rfl, fun x hx => by rw [List.mem_singleton.1 hx]; exact .inr rfl⟩) (by simp)
 rw [up_holds0] at hh0
 have hh1 := con_bholds upM [0] [(0, [9])] hP (fun y hy => by rw [List.mem_singleton.1 hy]; exact ⟨Int.le_refl _, by rw [hsl]; show (0 : Int) < 1; omega, rfl, fun x hx => by rw [List.mem_singleton.1 hx]; left; omega⟩) (by simp)
 rw [up_holds1] at hh1
 have hup := con_up
 have hnil : leV (.ag [.nil, vs 0 [0]]) (.ag [vs 0 [], vs 0 [0]]) := leV_ag ⟨leV_nil _ _, leV_refl _, trivial⟩
 have hg2 := Con.args (args' := [vM upM, .ag [.nil, vs 0 [0]]]) hg fun G w vs hv => pw2_le hnil hv
 have hrp2 := Con.args (args' := [vM upM, .ag [.nil, vs 0 [0]], vi 5]) hrp fun G w vs hv => pw3_le hnil hv
 clear hg hrp
 generalize (stU 5).map vStep = S at *
 generalize upM = m at *
 simp only [go_sem]
 refine CallU.free hup (by simp only [go_sem]) (by simp only [go_sem]) ?_
 rintro r bx rfl
 simp only [go_sem, vM, cM, vss]
 refine CallU.freeze hg2 (by simp only [go_sem]) (by simp only [go_sem, vM, cM, vss, List.map_cons, List.map_nil]) ?_
 rintro r bx rfl
 simp only [go_sem, List.map_cons, List.map_nil]
 refine CallU.free hup (by simp only [go_sem]) (by simp only [go_sem]) ?_
 rintro r bx rfl
 simp only [go_sem, vM, cM, vss]
 refine CallU.freeze hrp2 (by simp only [go_sem]) (by simp only [go_sem, vM, cM, vss, List.map_cons, List.map_nil]) ?_
 rintro r bx rfl
 simp only [go_sem, List.map_cons, List.map_nil]
 refine CallU.freeze hb (by simp only [go_sem]) (by simp only [go_sem, List.map_cons, List.map_nil]) ?_
 rintro r bx rfl
 simp only [go_sem, List.length_cons, List.length_nil, hlen5, h4]
 refine CallU.free hup (by simp only [go_sem]) (by simp only [go_sem]) ?_
 rintro r bx rfl
 simp only [go_sem, vM, cM, vss]
 refine CallU.freeze hh0 (by simp only [go_sem]) (by simp only [go_sem, vM, cM, vss, List.map_cons, List.map_nil]) ?_
 rintro r bx rfl
 simp only [go_sem]
 refine CallU.free hup (by simp only [go_sem]) (by simp only [go_sem]) ?_
 rintro r bx rfl
 simp only [go_sem, vM, cM, vss]
 refine CallU.freeze hh1 (by simp only [go_sem]) (by simp only [go_sem, vM, cM, vss, List.map_cons, List.map_nil]) ?_
 rintro r bx rfl
 simp only [go_sem]
theorem con_tree (m : MD) (v0 : List Int) (sd : List Int) (at_ : Nat) (h : PlainM m 0 v0) : Con Tryz.prog 10 [.pb 0 0, vM m, vi 60] [diceA sd at_]
  fun x b => ∃ l next ok, (ok = true -> Tree m.rules m.states.length m.places.length 0 v0 l next /\ next <= 60) /\ x = .tup [.ag [.sl 0 4 (l.map vND), vi (next : Nat)], vb ok] /\ b = [diceA sd at_] := by
 refine Con.intro Tryz.func10 rfl Tryz.ntmps10 Tryz.results10 (by kernel_rfl) (by simp) 1 (by simp) ?_
 have hst : Con Tryz.prog 26 [vM m] [] fun x _ => x = .tup [.ag [.sl 0 4 ([rootN v0].map vND), vi (0 : Nat)], vi 0] :=
  (Con.freezeR (fun _ => true) (con_rstart m v0 h)).weak fun r b ⟨r0, h0, h1⟩ => by
   subst h0; subst h1
   exact ⟨_, rfl, leV_refl _⟩
 have hrun := con_rrun m v0 [rootN v0] 0 60 h (tree_root h) (by omega)
 simp only [go_sem, vM, cM, vss]
 refine CallU.free hst (by simp only [go_sem]) (by simp only [go_sem, vM, cM, vss]) ?_
 rintro r bx rfl
 simp only [go_sem]
 refine CallU.free hrun (by simp only [go_sem]) (by simp only [go_sem, vM, cM, vss]) ?_
 rintro r bx ⟨l, next, k, e, he, rfl⟩
 by_cases he0 : e = 0
 ·have he' : (e == 0) = true := beq_iff_eq.2 he0
  simp only [go_sem, he']
  exact ⟨l, next, true, fun _ => ⟨(he he0).1, by have := (he he0).2; omega⟩, rfl⟩
 ·have he' : (e == 0) = false := beq_eq_false_iff_ne.2 he0
  simp only [go_sem, he']
  exact ⟨l, next, false, fun hh => (by cases hh), rfl⟩
theorem limits_facts {m : MD} {v0 : List Int} {l : List ND} {L : List SV} (h : PlainM m 0 v0) (hT : Tree m.rules m.states.length m.places.length 0 v0 l l.length) (hL : LimOk m.states.length m.places.length l l.length L) :
  ClosedL m.rules L /\ (∀ x ∈ L, lowV x.2) /\ (∀ r ∈ m.rules, ∀ i : Nat, r.need[i]! <= 16) /\ Covered L (0, v0) /\ holdsL m.rules L 0 v0 = 0 /\ (∀ y ∈ L, 0 <= y.1 /\ y.1 < m.states.length /\ okV m.places.length y.2) /\ L.length <= 256 := by
 have h2 := h.good.places
 have hc := hT.limits hL
 obtain ⟨y, hy, e1, e2, e3⟩ := hT.start hL
 have hlen := h.conf.len
 refine ⟨hc, hL.low, fun r hr i => ?_, ⟨y, hy, e1, by rw [hlen, e2], fun i hi => .inr (e3 i (by have hi : i < v0.length := hi; omega))⟩, holds_zero hc (conf_ok0 h) (by omega) ⟨y, hy, e1, (hL.real y hy).2.2.1, e3⟩, fun y hy => ⟨(hL.real y hy).1, (hL.real y hy).2.1, (hL.real y hy).2.2.1⟩, by have := hL.few; have := hT.len; omega⟩
 have hs := plain_slim h r hr
 by_cases hi : i < m.places.length
 ·exact (hs.low i hi).2.1
 ·rw [getElem!_neg r.need i (by rw [hs.need]; exact hi)]; decide
theorem con_numbersC (s : Nat) (v : List Int) (hv : v.length <= 100) : Con Tryz.prog 15 [vV (cfgC s v)] [] fun r _ => r = vs 0 v := by
 rw [vV_eq]
 have hn := con_rNumbers 0 (.mk s []) (v.map fun n => .mk n []) (by simp; omega)
 rw [cfg_nums] at hn
 exact (Con.freezeR (fun _ => true) hn).weak fun r b ⟨r0, h0, h1⟩ => by
  subst h0; subst h1
  exact ⟨_, rfl, leV_refl _⟩
theorem con_bholdsLaw (l : List Int) (hl : l.length <= 9223372036854775807) (hx : ∀ x ∈ l, 0 <= x /\ x < 256) :
  Con Tryz.prog 3 [.sl 0 1 (l.map vu)] [] fun r _ => r = vb true := by
 refine Con.intro Tryz.func3 rfl Tryz.ntmps3 Tryz.results3 (by kernel_rfl) (by simp) 0 (by simp) ?_
 have hs : Seeds (l.take 200) := ⟨by rw [List.length_take]; omega, fun x h => hx x (List.mem_of_mem_take h)⟩
 simp only [go_sem]
 refine CallU.free con_sane29 (by simp only [go_sem]) (by simp only [go_sem]) ?_
 rintro r bx rfl
 simp only [go_sem]
 refine CallU.news (bx0 := []) (con_new l hl) (by simp only [go_sem]) (by simp only [go_sem]) (by simp only [go_sem]) (by simp only [go_sem]) (by simp only [go_sem]) ?_
 rintro r bx ⟨rfl, rfl⟩
 generalize l.take 200 = sd at hs
 simp only [go_sem]
 refine CallU.boxes (i := 0) (is := []) (bx0 := [diceA sd 0]) (con_Counter sd 0 hs (by omega)) (by simp only [go_sem]) (by simp only [go_sem]) (by simp only [go_sem]) (by simp only [go_sem]) (by simp only [go_sem]) ?_
 rintro r bx ⟨ns, np, rules, v0, at1, hd, ha1, rfl, rfl⟩
 have hP := deal_plain hd
 have hv0 : ∀ x ∈ v0, x <= 900000 := fun x hx => by have := hd.start.2 x hx; omega
 generalize dealM ns np rules v0 = m at hP
 simp only [go_sem, vM, cM, vss]
 refine CallU.boxes (i := 0) (is := []) (bx0 := [diceA sd at1]) (con_tree m v0 sd at1 hP) (by simp only [go_sem]) (by simp only [go_sem]) (by simp only [go_sem]) (by simp only [go_sem, vM, cM, vss]) (by simp only [go_sem]) ?_
 rintro r bx ⟨tn, next, ok, hT, rfl, rfl⟩
 cases ok
 ·simp only [go_sem]
 obtain ⟨hT, _⟩ := hT rfl
 simp only [go_sem]
 refine CallU.free (con_rdone tn next) (by simp only [go_sem]) (by simp only [go_sem]) ?_
 rintro r bx rfl
 by_cases hdn : next = tn.length
 case neg =>
  have hdn' : ((next : Int) == (tn.length : Int)) = false := beq_eq_false_iff_ne.2 (by omega)
  simp only [go_sem, hdn']
 subst hdn
 have hdn' : ((tn.length : Int) == (tn.length : Int)) = true := beq_iff_eq.2 rfl
 simp only [go_sem, hdn']
 refine CallU.free (con_rlimits tn tn.length m.states.length m.places.length hT.nodes (by have := hP.good.places; omega)) (by simp only [go_sem]) (by simp only [go_sem]) ?_
 rintro r bx ⟨L, hL, rfl⟩
 obtain ⟨hcl, hlow, hneed, hcov, hz, hform, h256⟩ := limits_facts hP hT hL
 have hH := con_bholds m v0 L hP hform h256
 rw [hz] at hH
 simp only [go_sem]
 refine CallU.free hH (by simp only [go_sem]) (by simp only [go_sem, vM, cM, vss]) ?_
 rintro r bx rfl
 simp only [go_sem]
 have hN := con_near sd at1 m 0 v0 10 hs ha1 hP hv0 (by omega)
 refine CallU.boxes (i := 0) (is := []) (bx0 := [diceA sd at1]) hN (by simp only [go_sem]) (by simp only [go_sem]) (by simp only [go_sem]) (by simp only [go_sem, vM, cM, vss]) (by simp only [go_sem]) ?_
 rintro r bx ⟨s, v, run, at3, hr, hlen, h3, rfl, rfl⟩
 have hgc := run_good hP.good hP.conf hv0 hr (by omega)
 have hcv := (runM_cover hP hv0 hcl hlow hneed hcov hr (by omega)).2
 simp only [go_sem, vV_eq (cfgC s v)]
 refine LoopK.intro (fun j : Nat => ⟨76, [(7, .sl 0 2 (L.map vLim)), (47, .sl 2882 3 (run.map vStep)), (48, vi run.length), (49, vi j)], [diceA sd at3, cM m, [.sl 0 4 (tn.map vND), vi tn.length], [vi (cfgC s v).n, .sl 0 2 ((cfgC s v).kids.map vV)]] ++ Rk 3 j⟩)
  (fun j => run.length - j) (fun j => j <= run.length) 0 (by omega) ?_ ?_
 ·simp only [go_sem, cM, vss, Rk, List.replicate_zero, List.append_nil]
 rintro j hj
 by_cases hjl : j < run.length
 case neg =>
  simp only [go_sem, cM, vss, hjl]
 have hg : (run.map vStep)[j]? = some (vStep run[j]) := by rw [List.getElem?_map, List.getElem?_eq_getElem hjl]; rfl
 have hxg := hgc.2.2 _ (List.getElem_mem hjl)
 have hxc := hcv _ (List.getElem_mem hjl)
 obtain ⟨x, ex⟩ : ∃ x, x = run[j] := ⟨_, rfl⟩
 rw [<- ex] at hg hxg hxc
 have hxl := hxg.len
 have hp6 := hP.good.places
 have hnum := con_numbersC x.state x.v (by omega)
 have e0 := vV_eq (cfgC x.state x.v)
 have en : (cfgC x.state x.v).n = 0 := rfl
 rw [e0, en] at hnum
 have hB := Rk_len 3 j
 have ra := fun L : List (List AV) => app_at0 (L := L) hB
 have rs := fun (L : List (List AV)) z => app_set0 (L := L) (z := z) hB
 have hwj : IntKind.i64.wrap (j + 1) = j + 1 := wrap_in (by omega) (by omega)
 simp only [go_sem, cM, vss, List.cons_append, List.nil_append, hjl, hg, List.length_map, hB, ra, rs]
 refine CallU.free hnum (by simp only [go_sem]) (by simp only [go_sem]) ?_
 rintro r b rfl
 simp only [go_sem, List.length_map]
 refine LoopK.intro (fun k : Nat => ⟨76, [(7, .sl 0 2 (L.map vLim)), (47, .sl 2882 3 (run.map vStep)), (48, vi run.length), (49, vi j), (55, vs 0 x.v), (56, vi x.v.length), (57, vi k)], [diceA sd at3, cM m, [.sl 0 4 (tn.map vND), vi tn.length], [vi (cfgC s v).n, .sl 0 2 ((cfgC s v).kids.map vV)]] ++ (Rk 3 j ++ [[.any, .any, .any]])⟩)
  (fun k => x.v.length - k) (fun k => k <= x.v.length) 0 (by omega) ?_ ?_
 ·simp only [go_sem, cM, vss, List.cons_append, List.nil_append]
  exact leB_RkA ⟨⟨leV_any _, leV_any _, leV_any _, trivial⟩, trivial⟩
 rintro k hk
 by_cases hkl : k < x.v.length
 case neg =>
  simp only [go_sem, cM, vss, List.cons_append, List.nil_append, hkl, hwj]
  refine roundK.intro (j + 1) (by omega) (by omega) ?_
  simp only [go_sem, Rk_succ]
  exact leB_self _
 have gk := getv hkl
 have hwk : IntKind.i64.wrap ((k : Int) + 1) = k + 1 := wrap_in (by omega) (by omega)
 have hbd := con_bound L k (by omega)
 unfold boundR at hbd
 cases hb : boundB L k
 ·rw [hb, if_neg (by simp)] at hbd
  simp only [go_sem, cM, vss, List.cons_append, List.nil_append, hkl, gk]
  refine CallU.free hbd (by simp only [go_sem]) (by simp only [go_sem]) ?_
  rintro r b rfl
  simp only [go_sem, hwk]
  refine roundK.intro (k + 1) (by omega) (by omega) ?_
  simp only [go_sem]
 ·rw [hb, if_pos rfl, show ((k : Int)).toNat = k from rfl] at hbd
  have hle : ¬ mostF L k < x.v[k]! := by have := reach_bound hxc hkl hb; omega
  simp only [go_sem, cM, vss, List.cons_append, List.nil_append, hkl, gk]
  refine CallU.free hbd (by simp only [go_sem]) (by simp only [go_sem]) ?_
  rintro r b rfl
  simp only [go_sem, hle, hwk]
  refine roundK.intro (k + 1) (by omega) (by omega) ?_
  simp only [go_sem]
end Go.AM
