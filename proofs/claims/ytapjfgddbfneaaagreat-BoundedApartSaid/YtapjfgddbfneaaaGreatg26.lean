/- TQ -/
import Derived.Test.YtapjfgddbfneaaaGreatg25
namespace Go.AM
open Go Go.Proofs Go.RowKit
set_option maxRecDepth 100000
set_option maxHeartbeats 8000000
theorem walk_vlen (rules : List RD) : ∀ (x : SV) (ks : List Int), (walkF rules x ks).2.1.2.length = x.2.length
 | x, [] => rfl
 | x, k :: ks => by
  unfold walkF
  split
  ·split
   ·rfl
   ·have := walk_vlen rules (rules[k.toNat]!.dst, fireO rules[k.toNat]! x.2) ks
    rw [show (rules[k.toNat]!.dst, fireO rules[k.toNat]! x.2).2.length = x.2.length from fireO_len _ _] at this
    exact this
  ·rfl
theorem grows_len (rules : List RD) (x : SV) (b a : List Int) : (growsF rules x b a).2.length <= x.2.length := by
 unfold growsF
 simp only
 split
 ·simp
 split
 ·simp
 split
 ·simp
 split
 ·simp
 ·have h1 := growN_len (walkF rules x b).2.1.2 (walkF rules (walkF rules x b).2.1 a).2.1.2 (walkF rules (walkF rules x b).2.1 a).2.1.2.length
  rw [grow_all, walk_vlen, walk_vlen] at h1
  exact h1
theorem con_bapartLaw (l raw : List Int) (hl : l.length <= 9223372036854775807) (hx : ∀ x ∈ l, 0 <= x /\ x < 256) (hrl : raw.length <= 9223372036854775807) (hrx : ∀ x ∈ raw, 0 <= x /\ x < 256) :
  Con Tryz.prog 4 [.sl 0 1 (l.map vu), .sl 0 1 (raw.map vu)] [] fun r _ => r = vb true := by
 refine Con.intro Tryz.func4 rfl Tryz.ntmps4 Tryz.results4 (by kernel_rfl) (by simp) 0 (by simp) ?_
 have hs : Seeds (l.take 200) := ⟨by rw [List.length_take]; omega, fun x h => hx x (List.mem_of_mem_take h)⟩
 simp only [go_sem]
 refine CallU.free con_sane29 (by simp only [go_sem]) (by simp only [go_sem]) ?_
 rintro r bx rfl
 simp only [go_sem]
 refine CallU.news (bx0 := []) (con_new l hl) (by simp only [go_sem]) (by simp only [go_sem]) (by simp only [go_sem]) (by simp only [go_sem]) (by simp only [go_sem]) ?_
 rintro r bx ⟨rfl, rfl⟩
 generalize l.take 200 = sd at hs
 simp only [go_sem]
 refine CallU.boxes (i := 0) (is := []) (bx0 := [diceA sd 0]) (con_Counter sd 0 hs (by omega)) (by simp only [go_sem]) (by simp only [go_sem]) (by simp only [go_sem]) (by simp only [go_sem]) (by simp only [go_sem]) ?_
 rintro r bx ⟨ns, np, rules, v0, at1, hd, ha1, rfl, rfl⟩
 have hP := deal_plain hd
 have hr1 : 1 <= rules.length := hd.len.1
 have er : (dealM ns np rules v0).rules = rules := rfl
 rw [<- er] at hr1
 clear er
 have hv0 : ∀ x ∈ v0, x <= 900000 := fun x hx => by have := hd.start.2 x hx; omega
 generalize dealM ns np rules v0 = m at hP hr1
 have hr12 := hP.good.few
 have hP2 := hP.good.places
 simp only [go_sem, vM, cM, vss]
 refine LoopK.intro (fun p : Nat × List Int × List Int => ⟨101, [(5, .pb 0 0), (6, .pb 1 0), (7, .pb 2 0), (25, .sl 0 1 (raw.map vu)), (26, vi raw.length), (27, vi p.1)], [diceA sd at1, cM m, [.sl 2816 1 (p.2.1.map vi), .sl 3648 1 (p.2.2.map vi)]]⟩)
  (fun p => raw.length - p.1) (fun p => p.1 <= raw.length /\ p.2.1.length <= p.1 /\ p.2.2.length <= p.1 /\ p.2.1.length <= 5 /\ p.2.2.length <= 5 /\ (∀ k ∈ p.2.1, 0 <= k /\ k < m.rules.length) /\ (∀ k ∈ p.2.2, 0 <= k /\ k < m.rules.length)) (0, [], []) ⟨by show 0 <= _; omega, by simp, by simp, by simp, by simp, fun k hk => (by cases hk), fun k hk => (by cases hk)⟩ ?_ ?_
 ·simp only [go_sem, cM, vss, List.map_nil]
  all_goals first | exact leV_refl _ | exact leB_self _ | exact ⟨leV_refl _, leB_self _⟩ | skip
 rintro ⟨i, b, a⟩ ⟨hi, h1, h2, h3, h4, hb, ha⟩
 simp only at hi h1 h2 h3 h4 hb ha
 by_cases hil : i < raw.length
 ·have hg : (raw.map vu)[i]? = some (vu raw[i]!) := by rw [List.getElem?_map, List.getElem?_eq_getElem hil, getElem!_pos raw i hil, Option.map_some]
  have hxr := hrx _ (mem_bangI hil)
  generalize raw[i]! = x at hg hxr
  have hwi : IntKind.i64.wrap ((i : Int) + 1) = i + 1 := wrap_in (by omega) (by omega)
  have hwx : IntKind.i64.wrap x = x := wrap_in (by omega) (by omega)
  have hr0 : ¬ (m.rules.length : Int) = 0 := by omega
  have ht0 : 0 <= x.tmod m.rules.length := Int.tmod_nonneg _ hxr.1
  have ht1 : x.tmod m.rules.length < m.rules.length := Int.tmod_lt_of_pos _ (by omega)
  have hrob : roomFor (b.length + 1) 8 := by simp only [roomFor]; omega
  have hroa : roomFor (a.length + 1) 8 := by simp only [roomFor]; omega
  by_cases hi2 : (i : Int) < 2
  ·simp only [go_sem, cM, vss, hil, hg, hi2]
   refine DrawK.walk 9 mixed (by kernel_rfl) ?_
   simp only [go_sem, hwx, hr0, hrob, hwi, List.length_map]
   refine roundK.intro (i + 1, b ++ [x.tmod m.rules.length], a) ⟨by show i + 1 <= _; omega, by simp; omega, by show a.length <= i + 1; omega, by simp; omega, h4, fun k hk => ?_, ha⟩ (by show raw.length - (i + 1) < raw.length - i; omega) ?_
   ·rcases List.mem_append.1 hk with hk | hk
    ·exact hb k hk
    ·rw [List.mem_singleton] at hk; subst hk; exact ⟨ht0, ht1⟩
   ·simp only [go_sem, List.map_append, List.map_cons, List.map_nil]
    all_goals first | exact leV_refl _ | exact leB_self _ | exact ⟨leV_refl _, leB_self _⟩ | skip
  ·by_cases hi5 : (i : Int) < 5
   ·simp only [go_sem, cM, vss, hil, hg, hi2, hi5]
    refine DrawK.walk 9 mixed (by kernel_rfl) ?_
    simp only [go_sem, hwx, hr0, hroa, hwi, List.length_map]
    refine roundK.intro (i + 1, b, a ++ [x.tmod m.rules.length]) ⟨by show i + 1 <= _; omega, by show b.length <= i + 1; omega, by simp; omega, h3, by simp; omega, hb, fun k hk => ?_⟩ (by show raw.length - (i + 1) < raw.length - i; omega) ?_
    ·rcases List.mem_append.1 hk with hk | hk
     ·exact ha k hk
     ·rw [List.mem_singleton] at hk; subst hk; exact ⟨ht0, ht1⟩
    ·simp only [go_sem, List.map_append, List.map_cons, List.map_nil]
     all_goals first | exact leV_refl _ | exact leB_self _ | exact ⟨leV_refl _, leB_self _⟩ | skip
   ·simp only [go_sem, cM, vss, hil, hg, hi2, hi5, hwi]
    refine roundK.intro (i + 1, b, a) ⟨by show i + 1 <= _; omega, by show b.length <= i + 1; omega, by show a.length <= i + 1; omega, h3, h4, hb, ha⟩ (by show raw.length - (i + 1) < raw.length - i; omega) ?_
    simp only [go_sem]
    all_goals first | exact leV_refl _ | exact leB_self _ | exact ⟨leV_refl _, leB_self _⟩ | skip
 have hG := con_grows m v0 b a hP hb ha (by omega)
 obtain ⟨g, hg⟩ : ∃ g, growsF m.rules (0, v0) b a = g := ⟨_, rfl⟩
 rw [hg] at hG
 have hgl := grows_len m.rules (0, v0) b a
 rw [hg] at hgl
 obtain ⟨e, out⟩ := g
 have hgl : out.length <= v0.length := hgl
 have hvl0 := hP.conf.len
 unfold growA at hG
 simp only at hG
 by_cases he : e = 0
 case neg =>
  rw [if_neg he] at hG
  have he' : (e != 0) = true := bne_iff_ne.2 he
  simp only [go_sem, cM, vss, hil]
  refine CallU.freeze hG (by simp only [go_sem]) (by simp only [go_sem, vM, cM, vss]) ?_
  rintro r bx rfl
  simp only [go_sem]
  refine CallU.boxes (i := 0) (is := []) (bx0 := [diceA sd at1]) (con_tree m v0 sd at1 hP) (by simp only [go_sem]) (by simp only [go_sem]) (by simp only [go_sem]) (by simp only [go_sem, vM, cM, vss]) (by simp only [go_sem]) ?_
  rintro r bx ⟨tn, next, ok, hT, rfl, rfl⟩
  simp only [go_sem, he']
 subst he
 rw [if_pos rfl] at hG
 simp only [go_sem, cM, vss, hil]
 refine CallU.freeze hG (by simp only [go_sem]) (by simp only [go_sem, vM, cM, vss]) ?_
 rintro r bx rfl
 simp only [go_sem]
 refine CallU.boxes (i := 0) (is := []) (bx0 := [diceA sd at1]) (con_tree m v0 sd at1 hP) (by simp only [go_sem]) (by simp only [go_sem]) (by simp only [go_sem]) (by simp only [go_sem, vM, cM, vss]) (by simp only [go_sem]) ?_
 rintro r bx ⟨tn, next, ok, hT, rfl, rfl⟩
 cases ok
 ·simp only [go_sem]
 obtain ⟨hT, _⟩ := hT rfl
 simp only [go_sem]
 refine CallU.free (con_rdone tn next) (by simp only [go_sem]) (by simp only [go_sem]) ?_
 rintro r bx rfl
 by_cases hdn : next = tn.length
 case neg =>
  have hdn' : ((next : Int) == (tn.length : Int)) = false := beq_eq_false_iff_ne.2 (by omega)
  simp only [go_sem, hdn']
 subst hdn
 have hdn' : ((tn.length : Int) == (tn.length : Int)) = true := beq_iff_eq.2 rfl
 simp only [go_sem, hdn']
 refine CallU.free (con_rlimits tn tn.length m.states.length m.places.length hT.nodes (by have := hP.good.places; omega)) (by simp only [go_sem]) (by simp only [go_sem]) ?_
 rintro r bx ⟨L, hL, rfl⟩
 obtain ⟨hcl, hlow, hneed, hcov, hz, hform, h256⟩ := limits_facts hP hT hL
 have hg5 : ∀ r ∈ m.rules, 0 <= r.dst /\ r.dst < m.states.length /\ ∀ i, i < m.places.length -> 0 <= r.give[i]! := fun r hr => by
  have f := (hP.fine r hr).right
  have g := plain_slim hP r hr
  unfold RightR at f
  exact ⟨f.2.2.1, f.2.2.2.1, fun i hi => (g.low i hi).2.2.1⟩
 have hom := grows_om hg5 hneed hb ha (by have := hP.good.states; omega) ⟨hP.conf.len, hP.conf.low⟩ hcl hlow hcov hg
 simp only [go_sem, List.length_map]
 refine LoopK.intro (fun i : Nat => ⟨101, [(14, .sl 0 2 (L.map vLim)), (84, .sl 4034 1 (out.map vi)), (85, vi out.length), (86, vi i)], [diceA sd at1, cM m, [vs 0 b, vs 0 a], [.sl 0 4 (tn.map vND), vi tn.length]]⟩) (fun i => out.length - i) (fun i => i <= out.length) 0 (by omega) ?_ ?_
 ·simp only [go_sem, cM, vss]
  all_goals first | exact leV_refl _ | exact leB_self _ | exact ⟨leV_refl _, leB_self _⟩ | skip
 rintro i hi2
 by_cases hol : i < out.length
 ·have hgo := getv hol
  obtain ⟨n, en, x, hxm, hxl, hxo⟩ := hom.2 _ (mem_bangI hol)
  have hbd := con_bound L out[i]! (by omega)
  have hwi : IntKind.i64.wrap ((i : Int) + 1) = i + 1 := wrap_in (by omega) (by omega)
  unfold boundR at hbd
  rw [en, no_bound hxm hxo, if_neg (by simp)] at hbd
  rw [en] at hgo
  simp only [go_sem, cM, vss, hol, hgo]
  refine CallU.free hbd (by simp only [go_sem]) (by simp only [go_sem]) ?_
  rintro r bx rfl
  simp only [go_sem, hwi]
  refine roundK.intro (i + 1) (by omega) (by omega) ?_
  simp only [go_sem]
  all_goals first | exact leV_refl _ | exact leB_self _ | exact ⟨leV_refl _, leB_self _⟩ | skip
 have hall := con_ball L (fun y hy => by have := (hform y hy).2.2.1; omega) (by omega)
 obtain ⟨n, en, x, hxm, hxl, hxo⟩ := hom.2 out[0]! (mem_bangI (by omega))
 rw [has_om hxm hxl hxo] at hall
 simp only [go_sem, cM, vss, hol]
 refine CallU.free hall (by simp only [go_sem]) (by simp only [go_sem]) ?_
 rintro r bx rfl
 simp only [go_sem, Bool.not_true, Bool.not_false]
end Go.AM
