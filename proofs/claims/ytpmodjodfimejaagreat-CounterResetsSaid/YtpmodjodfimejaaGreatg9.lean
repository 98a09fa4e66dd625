/-
  Walks: effects of sequences of rules (counter.Effect), finite vectors.
  Walks: the sanity check of chapter 17.
  Walks: comparing configurations; a configuration above another one.
  Walks: names and rules that the deck deals.
  Walks: rules of counter models that the deck deals.
  Walks: counter models that the deck deals.
  Walks: a configuration above another one.
  What counter rules lead to: plain laws.
  CounterMoves: the walk of the law.
  How arguments read: slices of elements of several cells, structs.
  From the contract of a law of one list of bytes to its row.
-/
import Derived.Test.YtpmodjodfimejaaGreatg7
import Derived.Test.YtpmodjodfimejaaGreatg8
import Derived.Test.YtpmodjodfimejaaGreatg6
import Derived.SizedLaws
import Derived.Test.YtpmodjodfimejaaGreatRows
/-! ## FA -/
namespace Go.AM
open Go Go.Proofs Go.RowKit

set_option maxRecDepth 100000 in
theorem con_mplain1 (r : RD) : Con Tryz.prog 140 [vRule r] [] fun x _ => x = .sc (.bool (!stillB r)) := by
  refine Con.intro Tryz.func140 rfl Tryz.ntmps140 Tryz.results140 (by kernel_rfl) (by simp) 1 (by simp) ?_
  unfold stillB
  simp only [go_sem]
  cases r.move <;> simp
set_option maxRecDepth 100000 in
theorem con_mplain (m : MD) (hk : m.kind = 1) (hl : m.rules.length ≤ 9223372036854775806) : Con Tryz.prog 86 [vM m] [] fun x _ => x = vb (m.rules.all stillB) := by
  refine Con.intro Tryz.func86 rfl Tryz.ntmps86 Tryz.results86 (by kernel_rfl) (by simp) 1 (by simp) ?_
  simp only [go_sem, hk]
  refine CallU.free (con_containsRule m.rules 140 [] (fun r => !stillB r) rfl (fun r _ => con_mplain1 r) hl) (by simp only [go_sem]) (by simp only [go_sem]) ?_
  rintro r bx rfl
  simp only [go_sem, any_not]
/-- a number of no rule -/
def badRule (n : Nat) (k : Int) : Bool := decide (k < 0) || decide ((n : Int) ≤ k)
set_option maxRecDepth 100000 in
theorem con_eff1 (m : MD) (k : Int) : Con Tryz.prog 105 [vi k, .fp (cM m) 0] [] fun x _ => x = .sc (.bool (badRule m.rules.length k)) := by
  refine Con.intro Tryz.func105 rfl Tryz.ntmps105 Tryz.results105 (by kernel_rfl) (by simp) 0 (by simp) ?_
  unfold badRule
  by_cases h : k < 0
  · simp only [go_sem, cM, vss, h, decide_true, Bool.true_or]
  · by_cases h2 : (m.rules.length : Int) ≤ k
    · simp only [go_sem, cM, vss, h, h2, List.length_map, decide_true, decide_false, Bool.false_or]
    · simp only [go_sem, cM, vss, h, h2, List.length_map, decide_false, Bool.false_or]
/-- rules' numbers -/
def RulesOk (rules : List RD) (c : List Int) : Prop := ∀ k ∈ c, 0 ≤ k ∧ k < rules.length
theorem rules_any {rules : List RD} {c : List Int} (h : RulesOk rules c) : c.any (badRule rules.length) = false := by
  rw [List.any_eq_false]
  intro k hk
  have := h k hk
  unfold badRule
  rw [decide_eq_false (by omega), decide_eq_false (by omega)]
  simp
/-- rules with the effects of small numbers -/
def SmallR (np : Nat) (r : RD) : Prop := r.need.length = np ∧ r.give.length = np ∧ (∀ x ∈ r.need, 0 ≤ x ∧ x ≤ 16) ∧ ∀ x ∈ r.give, 0 ≤ x ∧ x ≤ 16
theorem good_small {m : MD} (h : GoodM m) : ∀ r ∈ m.rules, SmallR m.places.length r := fun r hr => by
  have h3 := (h.rules r hr).1
  unfold ruleB changesB smallB betweenB at h3
  simp only [Bool.and_eq_true, decide_eq_true_eq, List.all_eq_true] at h3
  exact ⟨h3.1.2.1.1.1, h3.1.2.1.1.2, h3.1.2.1.2, h3.1.2.2⟩
theorem tks_bnd {np : Nat} {rules : List RD} {c : List Int} {p : Nat} (h : ∀ r ∈ rules, SmallR np r) (hc : RulesOk rules c) (hp : p < np) : ∀ t ∈ tksF rules c p, 0 ≤ t.1 ∧ t.1 ≤ 16 ∧ 0 ≤ t.2 ∧ t.2 ≤ 16 := fun t ht => by
  obtain ⟨k, hk, rfl⟩ := List.mem_map.1 ht
  have hk' := hc k hk
  have hr := h _ (mem_bangI (show k.toNat < rules.length by omega))
  unfold SmallR at hr
  have h1 := hr.2.2.1 _ (mem_bangI (show p < rules[k.toNat]!.need.length by omega))
  have h2 := hr.2.2.2 _ (mem_bangI (show p < rules[k.toNat]!.give.length by omega))
  exact ⟨h1.1, h1.2, h2.1, h2.2⟩
theorem tks_len (rules : List RD) (c : List Int) (p : Nat) : (tksF rules c p).length = c.length := by simp [tksF]
theorem tks_take {rules : List RD} {c : List Int} {p j : Nat} (h : j < c.length) : tksF rules (c.take (j + 1)) p = tksF rules (c.take j) p ++ [(rules[c[j]!.toNat]!.need[p]!, rules[c[j]!.toNat]!.give[p]!)] := by
  unfold tksF
  rw [List.take_add_one, List.getElem?_eq_getElem h, List.map_append, getElem!_pos c j h]; rfl
theorem need_take {rules : List RD} {c : List Int} {p j : Nat} (h : j < c.length) : needA (tksF rules (c.take (j + 1)) p) = if needA (tksF rules (c.take j) p) ≤ rules[c[j]!.toNat]!.need[p]! - chg (tksF rules (c.take j) p) then rules[c[j]!.toNat]!.need[p]! - chg (tksF rules (c.take j) p) else needA (tksF rules (c.take j) p) := by
  have h2 := effFold_chg (tksF rules (c.take j) p) (0, 0)
  simp only [Int.zero_add] at h2
  unfold needA
  rw [tks_take h]
  unfold effFold at *
  rw [List.foldl_append, List.foldl_cons, List.foldl_nil]
  generalize List.foldl effStep (0, 0) (tksF rules (c.take j) p) = q at *
  rw [← h2]; rfl
theorem chg_take {rules : List RD} {c : List Int} {p j : Nat} (h : j < c.length) : chg (tksF rules (c.take (j + 1)) p) = chg (tksF rules (c.take j) p) + (rules[c[j]!.toNat]!.give[p]! - rules[c[j]!.toNat]!.need[p]!) := by
  rw [tks_take h, chg_app]; simp [chg]
theorem rules_take {rules : List RD} {c : List Int} (j : Nat) (h : RulesOk rules c) : RulesOk rules (c.take j) := fun k hk => h k (List.mem_of_mem_take hk)
set_option maxRecDepth 100000 in
set_option maxHeartbeats 4000000 in
theorem con_cEffect (m : MD) (c : List Int) (h : GoodM m) (hst : m.rules.all stillB = true) (hc : RulesOk m.rules c) (hl : c.length ≤ 64) :
    Con Tryz.prog 49 [vM m, vs 0 c] [] fun r _ => r = .tup [vs 2 (needL m.places.length m.rules c), vs 3 (chgL m.places.length m.rules c), vi 0] := by
  refine Con.intro Tryz.func49 rfl Tryz.ntmps49 Tryz.results49 (by kernel_rfl) (by simp) 0 (by simp) ?_
  have h2 := h.places
  have h3 := h.few
  have hsm := good_small h
  have hl2 : ¬ (64 : Int) < (c.length : Int) := by omega
  simp only [go_sem, vM, cM, vss]
  refine CallU.free (con_check m h) (by simp only [go_sem]) (by simp only [go_sem, vM, cM, vss]) ?_
  rintro x bx rfl
  simp only [go_sem]
  refine CallU.free (con_mplain m h.kind (by omega)) (by simp only [go_sem]) (by simp only [go_sem, vM, cM, vss]) ?_
  rintro x bx rfl
  simp only [go_sem, hst, hl2]
  refine CallU.look (con_containsInt c 105 [.fp (cM m) 0] (badRule m.rules.length) (by simp only [go_sem]) (fun x _ => con_eff1 m x) (by omega)) (by simp only [go_sem]) (by simp only [go_sem, cM, vss]) ?_
  rintro x bx rfl
  simp only [go_sem, rules_any hc]
  refine DrawK.walk 10 mixed (by kernel_rfl) ?_
  simp only [go_sem, List.length_map]
  refine ⟨Nat.le_refl _, by omega, by omega, Nat.le_refl _, by omega, by omega, ?_⟩
  obtain ⟨np, hnp⟩ : ∃ np, np = m.places.length := ⟨_, rfl⟩
  rw [← hnp] at h2 hsm ⊢
  have hrep : List.replicate np (AV.sc (.int .i64 0)) = (needL np m.rules (c.take 0)).map vi := by unfold needL; simp [tksF, needA, effFold, List.map_const']; exact .inr rfl
  have hrep2 : List.replicate np (AV.sc (.int .i64 0)) = (chgL np m.rules (c.take 0)).map vi := by unfold chgL; simp [tksF, chg, List.map_const']; exact .inr rfl
  refine LoopK.intro (fun j : Nat => ⟨94, [(2, .pb 0 0), (8, vs 2240 (needL np m.rules (c.take j))), (9, vs 2496 (chgL np m.rules (c.take j))), (39, vs 0 c), (40, vi c.length), (41, vi j)], [cM m] ++ Rk 14 j⟩)
    (fun j => c.length - j) (fun j => j ≤ c.length) 0 (by omega) ?_ ?_
  · simp only [go_sem, cM, vss, Rk, List.replicate_zero, List.append_nil]
    exact ⟨by rw [hrep]; exact leV_refl _, by rw [hrep2]; exact leV_refl _⟩
  rintro j hj
  have nl := needL_len np m.rules (c.take j)
  have cl := chgL_len np m.rules (c.take j)
  by_cases hjl : j < c.length
  case neg =>
    have e1 : c.take j = c := List.take_of_length_le (by omega)
    simp only [go_sem, cM, vss, hjl, e1]
  have hck := hc _ (mem_bangI hjl)
  obtain ⟨k, ek, hk⟩ : ∃ k : Nat, c[j]! = k ∧ k < m.rules.length := ⟨c[j]!.toNat, by omega, by omega⟩
  have hg := getv hjl
  have hgr := getRule hk
  have hrk := hsm _ (mem_bangI hk)
  have ra : ∀ L : List (List AV), (Rk 14 j ++ L)[(Rk 14 j).length]? = L[0]? := fun L => app_at0 rfl
  have rs : ∀ (L : List (List AV)) z, (Rk 14 j ++ L).set (Rk 14 j).length z = Rk 14 j ++ L.set 0 z := fun L z => app_set0 rfl
  have hw : IntKind.i64.wrap (j + 1) = j + 1 := wrap_in (by omega) (by omega)
  rw [ek] at hg
  simp only [go_sem, cM, vss, hjl, hg, hk, hgr, ra, rs, List.cons_append, List.nil_append, List.length_map, nl]
  obtain ⟨r, er⟩ : ∃ r, r = m.rules[k]! := ⟨_, rfl⟩
  rw [← er] at hrk ⊢
  have hbnd : ∀ p, p < np → 0 ≤ needA (tksF m.rules (c.take j) p) ∧ needA (tksF m.rules (c.take j) p) ≤ 1040 ∧ -1024 ≤ chg (tksF m.rules (c.take j) p) ∧ chg (tksF m.rules (c.take j) p) ≤ 1024 := fun p hp => by
    have h5 := tks_bnd hsm (rules_take j hc) hp
    have h6 := needA_bnd h5 (by omega)
    have h7 := chg_bnd h5 (by omega)
    have h8 := tks_len m.rules (c.take j) p
    have h9 : (c.take j).length ≤ 64 := by rw [List.length_take]; omega
    have h10 := needA_nonneg (tksF m.rules (c.take j) p)
    rw [h8] at h6 h7
    omega
  have hnx : ∀ p, needA (tksF m.rules (c.take (j + 1)) p) = if needA (tksF m.rules (c.take j) p) ≤ r.need[p]! - chg (tksF m.rules (c.take j) p) then r.need[p]! - chg (tksF m.rules (c.take j) p) else needA (tksF m.rules (c.take j) p) := fun p => by
    have := need_take (rules := m.rules) (p := p) hjl
    rw [ek, Int.toNat_natCast, ← er] at this; exact this
  have hcx : ∀ p, chg (tksF m.rules (c.take (j + 1)) p) = chg (tksF m.rules (c.take j) p) + (r.give[p]! - r.need[p]!) := fun p => by
    have := chg_take (rules := m.rules) (p := p) hjl
    rw [ek, Int.toNat_natCast, ← er] at this; exact this
  obtain ⟨f1, e1⟩ : ∃ f1 : Nat → Int, f1 = fun p => needA (tksF m.rules (c.take (j + 1)) p) := ⟨_, rfl⟩
  obtain ⟨f0, e0⟩ : ∃ f0 : Nat → Int, f0 = fun p => needA (tksF m.rules (c.take j) p) := ⟨_, rfl⟩
  obtain ⟨g1, e3⟩ : ∃ g1 : Nat → Int, g1 = fun p => chg (tksF m.rules (c.take (j + 1)) p) := ⟨_, rfl⟩
  obtain ⟨g0, e2⟩ : ∃ g0 : Nat → Int, g0 = fun p => chg (tksF m.rules (c.take j) p) := ⟨_, rfl⟩
  have n0 : needL np m.rules (c.take j) = mixL np 0 f1 f0 := by rw [mixL_zero, e0]; rfl
  have n1 : needL np m.rules (c.take (j + 1)) = mixL np np f1 f0 := by rw [mixL_full, e1]; rfl
  have c0 : chgL np m.rules (c.take j) = mixL np 0 g1 g0 := by rw [mixL_zero, e2]; rfl
  have c1 : chgL np m.rules (c.take (j + 1)) = mixL np np g1 g0 := by rw [mixL_full, e3]; rfl
  rw [n0, c0]
  refine LoopK.intro (fun i : Nat => ⟨94, [(2, .pb 0 0), (8, vs 2240 (mixL np i f1 f0)), (9, vs 2496 (mixL np i g1 g0)), (12, .pb ((Rk 14 j).length + 1) 0), (39, vs 0 c), (40, vi c.length), (41, vi j), (51, vi np), (52, vi i)], cM m :: (Rk 14 j ++ [[vStr r.name, vi r.src, vi r.dst, vs 0 r.need, vs 0 r.give, vs 0 r.move, vi r.channel, vi r.act, vi r.letter, vs 0 r.path, vs 0 r.next, .sl 0 3 (r.takes.map vTake), vs 0 r.makes, vi r.second]])⟩)
    (fun i => np - i) (fun i => i ≤ np) 0 (by omega) ?_ ?_
  · simp only [go_sem, cM, vss]
    all_goals exact leB_self _
  rintro i hi
  have ml := mixL_len np i f1 f0
  have ml2 := mixL_len np i g1 g0
  by_cases hil : i < np
  · have hb := hbnd i hil
    have hw2 : IntKind.i64.wrap (i + 1) = i + 1 := wrap_in (by omega) (by omega)
    have q1 := getv (l := mixL np i f1 f0) (i := i) (by omega)
    have q2 := getv (l := mixL np i g1 g0) (i := i) (by omega)
    have q3 := getv (l := r.need) (i := i) (by rw [hrk.1]; exact hil)
    have q4 := getv (l := r.give) (i := i) (by rw [hrk.2.1]; exact hil)
    have l3 : i < r.need.length := by rw [hrk.1]; exact hil
    have l4 : i < r.give.length := by rw [hrk.2.1]; exact hil
    have b3 := hrk.2.2.1 _ (mem_bangI l3)
    have b4 := hrk.2.2.2 _ (mem_bangI l4)
    have f0i : f0 i = needA (tksF m.rules (c.take j) i) := by rw [e0]
    have g0i : g0 i = chg (tksF m.rules (c.take j) i) := by rw [e2]
    have hf1 := hnx i
    have hg1 := hcx i
    have f1i : f1 i = if f0 i ≤ r.need[i]! - g0 i then r.need[i]! - g0 i else f0 i := by rw [e1, f0i, g0i]; exact hf1
    have g1i : g1 i = g0 i + (r.give[i]! - r.need[i]!) := by rw [e3, g0i]; exact hg1
    rw [← f0i, ← g0i] at hb
    rw [mixL_at hil, if_neg (by omega)] at q1 q2
    have w1 : IntKind.i64.wrap (r.need[i]! - g0 i) = r.need[i]! - g0 i := wrap_in (by omega) (by omega)
    have w2 : IntKind.i64.wrap (r.give[i]! - r.need[i]!) = r.give[i]! - r.need[i]! := wrap_in (by omega) (by omega)
    have w3 : IntKind.i64.wrap (g0 i + (r.give[i]! - r.need[i]!)) = g1 i := by rw [g1i]; exact wrap_in (by omega) (by omega)
    have hmx : max (f0 i) (r.need[i]! - g0 i) = f1 i := by rw [f1i, Int.max_def]
    have hs1 := mixL_set (np := np) (i := i) (f := f1) (g := f0)
    have hs2 := mixL_set (np := np) (i := i) (f := g1) (g := g0)
    simp only [go_sem, cM, vss, hil]
    refine DrawK.walk 18 mixed (by kernel_rfl) ?_
    simp only [go_sem, ml, ml2, hil, ra, q1, q2, q3, l3, w1]
    refine DrawK.walk 17 mixed (by kernel_rfl) ?_
    simp only [go_sem, ml2, hil, ra, q2, q3, q4, l3, l4, w2, w3]
    rw [hmx]
    simp only [modify_vi, hs1, hs2]
    refine roundK.intro (i + 1) (by show i + 1 ≤ np; omega) (by show np - (i + 1) < np - i; omega) ?_
    simp only [go_sem, hw2]
  · obtain rfl : i = np := by omega
    simp only [go_sem, cM, vss, hil, hw]
    refine roundK.intro (j + 1) (by omega) (by omega) ?_
    simp only [go_sem, n1, c1, Rk_succ]
    all_goals exact leB_RkA ⟨leC_any _ 14 rfl, trivial⟩
end Go.AM

/-! ## HP -/
namespace Go.AM
open Go Go.Proofs Go.RowKit

set_option maxRecDepth 100000 in
theorem con_cEnabled (m : MD) (i : Nat) (s : Nat) (v : List Int) (h : GoodM m) (hi : i < m.rules.length) (hc : GoodC m s v) :
    Con Tryz.prog 44 [vM m, vi i, vV (cfgC s v)] [] fun x _ => x = .tup [vb (enF m.rules[i]! s v), vi 0] := by
  have e0 := cfgZ_eq s v
  have h2 := h.places
  have hr := rule_c (h.rules _ (mem_bangI hi)).1
  have hlen := hc.len
  rw [e0]
  refine Con.intro Tryz.func44 rfl Tryz.ntmps44 Tryz.results44 (by kernel_rfl) (by simp) 0 (by simp) ?_
  simp only [go_sem, vM, cM, vss]
  refine CallU.free (con_ccheck m i s v h hi hc) (by simp only [go_sem]) (by simp only [go_sem, vM, cM, vss, e0]) ?_
  rintro r bx rfl
  have hg := getRule hi
  simp only [go_sem]
  refine DrawK.walk 7 mixed (by kernel_rfl) ?_
  simp only [go_sem, hi, hg]
  refine CallY.mk (con_cenabled m.rules[i]! s v (by rw [hr.need.1, hlen]) (by omega)) (by simp only [go_sem, e0]) (by simp only [go_sem]) (.inl (by simp only [go_sem])) ?_
  simp only [go_sem]

set_option maxRecDepth 100000 in
theorem con_cEffectE (m : MD) (c : List Int) (h : GoodM m) (hst : m.rules.all stillB = false) :
    Con Tryz.prog 49 [vM m, vs 0 c] [] fun r _ => r = .tup [.nil, .nil, vi 15] := by
  refine Con.intro Tryz.func49 rfl Tryz.ntmps49 Tryz.results49 (by kernel_rfl) (by simp) 0 (by simp) ?_
  have h3 := h.few
  simp only [go_sem, vM, cM, vss]
  refine CallU.free (con_check m h) (by simp only [go_sem]) (by simp only [go_sem, vM, cM, vss]) ?_
  rintro x bx rfl
  simp only [go_sem]
  refine CallU.free (con_mplain m h.kind (by omega)) (by simp only [go_sem]) (by simp only [go_sem, vM, cM, vss]) ?_
  rintro x bx rfl
  simp only [go_sem, hst]

/-! ### the sanity check -/
def sR17 : RD := ⟨⟨#[114]⟩, 0, 0, [1, 0], [1, 0], [1, 1], 0, 0, 0, [], [], [], [], 0⟩
def sM17 : MD := { kind := 1, states := [⟨#[97]⟩], places := [⟨#[120]⟩, ⟨#[121]⟩], rules := [sR17], start := cfgC 0 [3, 2] }
def sC17 : AV := .ag [vi 0, .sl 0 2 [kidN 0, kidN 3, kidN 2]]
def sA17 : AV := .ag [vi 1, .sl 0 1 [vStr ⟨#[97]⟩], .sl 0 1 [vStr ⟨#[120]⟩, vStr ⟨#[121]⟩], .nil, .nil, vi 0, vi 0, .sl 0 14 [.ag [vStr ⟨#[114]⟩, vi 0, vi 0, .sl 0 1 [vi 1, vi 0], .sl 0 1 [vi 1, vi 0], .sl 0 1 [vi 1, vi 1], vi 0, vi 0, vi 0, .nil, .nil, .nil, .nil, vi 0]], vi 0, .sl 0 2 [kidN 0, kidN 3, kidN 2]]
theorem s17_good : GoodM sM17 := by
  refine ⟨rfl, by decide, by decide, by decide, rfl, rfl, rfl, rfl, by decide +kernel, ?_, by decide +kernel⟩
  intro r hr
  have : r = sR17 := by simpa [sM17] using hr
  subst this
  decide +kernel
theorem s17_conf : GoodC sM17 0 [3, 2] := by
  refine ⟨by decide, by decide, fun x hx => ?_⟩
  simp only [List.mem_cons, List.not_mem_nil, or_false] at hx
  omega
theorem sC17_le : leV sC17 (vV (cfgC 0 [3, 2])) := cfg_le 0 [3, 2]
theorem sA17_le : leV sA17 (vM sM17) := by
  have e1 : Sub .nil (vs 0 []) := Sub.nil 1
  have e3 : Sub .nil (.sl 0 3 (([] : List (Int × Int × Int)).map vTake)) := Sub.nil 3
  have hc := cfg_le 0 [3, 2]
  rw [vV_eq] at hc
  unfold sA17 vM cM
  refine leV_ag ⟨leV_refl _, leV_refl _, leV_refl _, leV_nil _ _, leV_nil _ _, leV_refl _, leV_refl _, ?_, leV_refl _, ?_, trivial⟩
  · refine leV_slE (by simp [sM17]) (fun y hy => by simp [sM17, sR17] at hy; subst hy; rfl) ?_
    exact PW.cons (Sub.refl _) (PW.cons (Sub.refl _) (PW.cons (Sub.refl _) (PW.cons (Sub.refl _) (PW.cons (Sub.refl _) (PW.cons (Sub.refl _) (PW.cons (Sub.refl _) (PW.cons (Sub.refl _) (PW.cons (Sub.refl _) (PW.cons e1 (PW.cons e1 (PW.cons e3 (PW.cons e1 (PW.cons (Sub.refl _) (PW.nil _))))))))))))))
  · show leV (.sl 0 2 ((((0 : Nat) : Int) :: [3, 2]).map kidN)) (.sl 0 2 (((((0 : Nat) : Int) :: [3, 2]).map fun n => CV.mk n []).map vV))
    exact leV_slE (by simp) (fun y hy => by
      obtain ⟨x, _, rfl⟩ := List.mem_map.1 hy
      rw [vV_eq]; rfl) (kids_pw _)
theorem s17_app : appA 2 sM17.rules[0]! 0 [3, 2] = .tup [.ag [vi 0, .sl 2 2 [kidN 0, kidN 1, kidN 4]], vi 0] := by
  have e1 : enF sM17.rules[0]! 0 [3, 2] = true := by decide +kernel
  have e2 : moveV sM17.rules[0]! [3, 2] = [1, 4] := by decide +kernel
  have e3 : okV [1, 4] = true := by decide +kernel
  unfold appA
  rw [if_pos e1, e2, if_pos e3]; rfl

set_option maxRecDepth 100000 in
set_option maxHeartbeats 4000000 in
theorem con_sane17 : Con Tryz.prog 43 [] [] fun r _ => r = vb true := by
  refine Con.intro Tryz.func43 rfl Tryz.ntmps43 Tryz.results43 (by kernel_rfl) (by simp) 0 (by simp) ?_
  have a1 := con_capply sM17 0 0 [3, 2] s17_good (by decide) s17_conf
  rw [s17_app] at a1
  have a2 := con_cEnabled sM17 0 0 [3, 2] s17_good (by decide) s17_conf
  have e1 : enF sM17.rules[0]! 0 [3, 2] = true := by decide +kernel
  rw [e1] at a2
  have a3 := con_cEffectE sM17 [0] s17_good (by decide +kernel)
  simp only [go_sem]
  refine CallU.freeze (a1.leA (args' := [sA17, vi 0, sC17]) ⟨sA17_le, leV_refl _, sC17_le, trivial⟩) (by simp only [go_sem]) (by simp only [go_sem, sA17, sC17]) ?_
  rintro r bx rfl
  simp only [go_sem]
  refine CallU.freeze (a2.leA (args' := [sA17, vi 0, sC17]) ⟨sA17_le, leV_refl _, sC17_le, trivial⟩) (by simp only [go_sem]) (by simp only [go_sem, sA17, sC17]) ?_
  rintro r bx rfl
  simp only [go_sem]
  refine CallU.freeze (a3.leA (args' := [sA17, vs 0 [0]]) ⟨sA17_le, leV_refl _, trivial⟩) (by simp only [go_sem]) (by simp only [go_sem, sA17, List.map_cons, List.map_nil]) ?_
  rintro r bx rfl
  simp only [go_sem]
end Go.AM

/-! ## HM -/
namespace Go.AM
open Go Go.Proofs Go.RowKit

/-- a part below a part -/
def leafLe (p : Int × Int) (a b : Int) : Bool := if p.1 = 1 then decide (a ≤ b) else a == b
set_option maxRecDepth 100000 in
theorem con_belowLeaf (p : Int × Int) (a b : Int) (hp : LeafP p) : Con Tryz.prog 109 [vPT p, kidZ a, kidZ b] [] fun r _ => r = vb (leafLe p a b) := by
  refine Con.intro Tryz.func109 rfl Tryz.ntmps109 Tryz.results109 (by kernel_rfl) (by simp) 0 (by simp) ?_
  obtain ⟨k, z⟩ := p
  rcases hp with hp | ⟨rfl, h1, h2⟩
  · cases hp
    simp only [go_sem, leafLe, if_true]
  · have e : leafLe (2, z) a b = (a == b) := rfl
    simp only [go_sem, e]

/-- pointwise -/
def cfgLe (s : Nat) (v : List Int) (s' : Nat) (v' : List Int) : Bool := (s == s') && (List.range v.length).all fun i => decide (v[i]! ≤ v'[i]!)

def atL (s : Nat) (v : List Int) (i : Nat) : Int := if i = 0 then (s : Int) else v[i - 1]!
theorem getK {s : Nat} {v : List Int} {i : Nat} (h : i < v.length + 1) : (kidZ s :: v.map kidZ)[i]? = some (kidZ (atL s v i)) := by
  unfold atL
  cases i with
  | zero => rfl
  | succ i =>
    rw [List.getElem?_cons_succ, List.getElem?_map, List.getElem?_eq_getElem (by omega), if_neg (by omega), Nat.add_sub_cancel, getElem!_pos v i (by omega)]; rfl

theorem leaf_at {ns np s s' i : Nat} {v v' : List Int} (h : i < np + 1) : leafLe (partsP ns np)[i]! (atL s v i) (atL s' v' i) = if i = 0 then (s == s') else decide (v[i - 1]! ≤ v'[i - 1]!) := by
  rw [parts_at ns np h]
  unfold leafLe atL
  by_cases h0 : i = 0
  · rw [if_pos h0, if_pos h0, if_pos h0, if_pos h0, if_neg (show ¬ ((2 : Int), (ns : Int)).1 = 1 from (by decide : ¬ (2 : Int) = 1))]
    by_cases e : s = s'
    · subst e; simp
    · rw [beq_eq_false_iff_ne.2 (by omega : (s : Int) ≠ s'), beq_eq_false_iff_ne.2 e]
  · rw [if_neg h0, if_neg h0, if_neg h0, if_neg h0, if_pos rfl]
theorem cfgLe_bad {ns np s s' i : Nat} {v v' : List Int} (hv : v.length = np) (h : i < np + 1) (hb : leafLe (partsP ns np)[i]! (atL s v i) (atL s' v' i) = false) : cfgLe s v s' v' = false := by
  rw [leaf_at h] at hb
  unfold cfgLe
  split at hb
  · rw [hb]; rfl
  · rw [Bool.and_eq_false_iff]
    right
    rw [List.all_eq_false]
    exact ⟨i - 1, List.mem_range.2 (by omega), by rw [hb]; simp⟩
theorem cfgLe_ok {ns np s s' : Nat} {v v' : List Int} (hv : v.length = np) (hb : ∀ j, j < np + 1 → leafLe (partsP ns np)[j]! (atL s v j) (atL s' v' j) = true) : cfgLe s v s' v' = true := by
  unfold cfgLe
  rw [Bool.and_eq_true, List.all_eq_true]
  refine ⟨?_, fun i hi => ?_⟩
  · have := hb 0 (by omega)
    rw [leaf_at (by omega), if_pos rfl] at this; exact this
  · have h1 := List.mem_range.1 hi
    have := hb (i + 1) (by omega)
    rw [leaf_at (by omega), if_neg (by omega)] at this; exact this
set_option maxRecDepth 100000 in
set_option maxHeartbeats 1000000 in
theorem con_belowFlat (ns np : Nat) (s s' : Nat) (v v' : List Int) (h1 : 1 ≤ ns) (h2 : ns ≤ 16) (hv : v.length = np) (hv' : v'.length = np) (h3 : np ≤ 7) :
    Con Tryz.prog 109 [flatT 0 (partsP ns np), cfgO 0 s v, cfgO 0 s' v'] [] fun r _ => r = vb (cfgLe s v s' v') := by
  refine Con.intro Tryz.func109 rfl Tryz.ntmps109 Tryz.results109 (by kernel_rfl) (by simp) 0 (by simp) ?_
  have hpl := parts_len ns np
  have hpos : ∀ w : List Int, w.length = np → ∀ i : Nat, i < np + 1 → (i : Int) < (w.length : Int) + 1 := fun w hw i hi => by omega
  simp only [go_sem]
  refine LoopK.intro (fun i : Nat => ⟨166, [(3, .pb 0 0), (4, .pb 1 0), (5, .pb 2 0), (7, vi i)], [[vi 3, vi 0, .nil, .sl 0 4 ((partsP ns np).map vPT)], [vi 0, .sl 0 2 (kidZ s :: v.map kidZ)], [vi 0, .sl 0 2 (kidZ s' :: v'.map kidZ)]]⟩)
    (fun i => np + 1 - i) (fun i => i ≤ np + 1 ∧ ∀ j, j < i → leafLe (partsP ns np)[j]! (atL s v j) (atL s' v' j) = true) 0 ⟨by omega, fun j hj => by omega⟩ ?_ ?_
  · simp only [go_sem]
    all_goals exact leB_self _
  rintro i ⟨hi, hb⟩
  by_cases hlt : i < np + 1
  · have hip : i < (partsP ns np).length := by omega
    have hg2 := getPT hip
    have ga := getK (s := s) (v := v) (i := i) (by omega)
    have gb := getK (s := s') (v := v') (i := i) (by omega)
    have q1 : (i : Int) < (v.length : Int) + 1 := by omega
    have q2 : (i : Int) < (v'.length : Int) + 1 := by omega
    have hw : IntKind.i64.wrap (i + 1) = i + 1 := wrap_in (by omega) (by omega)
    have hle := con_belowLeaf (partsP ns np)[i]! (atL s v i) (atL s' v' i) (parts_leaf h1 h2 _ (mem_bangI hip))
    have hbad := fun hf => cfgLe_bad (ns := ns) (s := s) (s' := s') (v := v) (v' := v') hv hlt hf
    have hgood : leafLe (partsP ns np)[i]! (atL s v i) (atL s' v' i) = true → ∀ j, j < i + 1 → leafLe (partsP ns np)[j]! (atL s v j) (atL s' v' j) = true := fun ht j hj => by
      by_cases hji : j = i
      · subst hji; exact ht
      · exact hb j (by omega)
    generalize atL s v i = a at ga hle hbad hgood
    generalize atL s' v' i = b at gb hle hbad hgood
    have ga' : (AV.ag [.sc (.int .i64 s), .sl 0 2 []] :: v.map kidZ)[i]? = some (AV.ag [.sc (.int .i64 a), .sl 0 2 []]) := ga
    have gb' : (AV.ag [.sc (.int .i64 s'), .sl 0 2 []] :: v'.map kidZ)[i]? = some (AV.ag [.sc (.int .i64 b), .sl 0 2 []]) := gb
    simp only [go_sem, hip]
    refine DrawK.walk 16 mixed (by kernel_rfl) ?_
    simp only [go_sem, hip, hg2, ga', gb', q1, q2]
    refine CallY.mk hle (by simp only [go_sem]) (by simp only [go_sem]) (.inl (by simp only [go_sem])) ?_
    cases hr : leafLe (partsP ns np)[i]! a b
    case false =>
      simp only [go_sem, hbad hr]
    simp only [go_sem, hw]
    refine roundK.intro (i + 1) ⟨by omega, hgood hr⟩ (by omega) ?_
    simp only [go_sem]
  · have e : i = np + 1 := by omega
    subst e
    have hn : ¬ ((np : Int) + 1 < ((partsP ns np).length : Int)) := by omega
    have hok := cfgLe_ok (ns := ns) (s := s) (s' := s') (v := v) (v' := v') hv hb
    simp only [go_sem, hn, hok]

set_option maxRecDepth 100000 in
theorem con_rLeq (ns np : Nat) (s s' : Nat) (v v' : List Int) (h1 : 1 ≤ ns) (h2 : ns ≤ 16) (h3 : np ≤ 7) (hc : confB ns np (cfgC s v) = true) (hc' : confB ns np (cfgC s' v') = true) (hv : v.length = np) (hv' : v'.length = np) :
    Con Tryz.prog 53 [flatT 0 (partsP ns np), cfgO 0 s v, cfgO 0 s' v'] [] fun r _ => r = vb (cfgLe s v s' v') := by
  refine Con.intro Tryz.func53 rfl Tryz.ntmps53 Tryz.results53 (by kernel_rfl) (by simp) 0 (by simp) ?_
  have e1 := con_rvalid ns np (cfgC s v) h1 h2 h3 hc
  have e2 := con_rvalid ns np (cfgC s' v') h1 h2 h3 hc'
  rw [cfgZ_eq] at e1 e2
  simp only [go_sem]
  refine CallU.free e1 (by simp only [go_sem]) (by simp only [go_sem]) ?_
  rintro r bx rfl
  simp only [go_sem]
  refine CallU.free e2 (by simp only [go_sem]) (by simp only [go_sem]) ?_
  rintro r bx rfl
  simp only [go_sem]
  refine CallU.free (con_belowFlat ns np s s' v v' h1 h2 hv hv' h3) (by simp only [go_sem]) (by simp only [go_sem]) ?_
  rintro r bx rfl
  simp only [go_sem]
end Go.AM

/-! ## HJ -/
namespace Go.AM
open Go Go.Proofs Go.RowKit

/-- a letter and a digit -/
def nm1 (a : ByteArray) (i : Nat) : ByteArray := a ++ strOf [48 + (i : Int)]
def nmL (a : ByteArray) (n : Nat) : List ByteArray := (List.range n).map (nm1 a)
theorem nmL_len (a : ByteArray) (n : Nat) : (nmL a n).length = n := by simp [nmL]
theorem nmL_succ (a : ByteArray) (n : Nat) : nmL a (n + 1) = nmL a n ++ [nm1 a n] := by unfold nmL; rw [List.range_succ, List.map_append]; rfl

set_option maxRecDepth 100000 in
theorem con_names (a : ByteArray) (n : Nat) (ha : a.size ≤ 10) (hn : n ≤ 9) : Con Tryz.prog 59 [vStr a, vi n] [] fun r _ => r = .sl 2 1 ((nmL a n).map vStr) := by
  refine Con.intro Tryz.func59 rfl Tryz.ntmps59 Tryz.results59 (by kernel_rfl) (by simp) 0 (by simp) ?_
  simp only [go_sem]
  refine LoopK.intro (fun i : Nat => ⟨23, [(0, vStr a), (1, vi n), (5, .sl 1408 1 ((nmL a i).map vStr)), (6, vi i)], []⟩)
    (fun i => n - i) (fun i => i ≤ n) 0 (by omega) ?_ ?_
  · simp only [go_sem, nmL, List.range_zero, List.map_nil]
    all_goals exact leV_nil _ _
  rintro i hi
  by_cases h : i < n
  · have hw : IntKind.i64.wrap (i + 1) = i + 1 := wrap_in (by omega) (by omega)
    have hw2 : IntKind.i64.wrap (48 + (i : Int)) = 48 + i := wrap_in (by omega) (by omega)
    have hw3 : IntKind.u8.wrap (48 + (i : Int)) = 48 + i := by rw [IntKind.wrap_u8]; omega
    have hb : bytesOf [.sc (.int .u8 (48 + (i : Int)))] = some [48 + (i : Int)] := rfl
    have hs : a.size + (strOf [48 + (i : Int)]).size ≤ 9223372036854775807 := by
      have e : (strOf [48 + (i : Int)]).size = 1 := rfl
      omega
    have hr : roomFor ((nmL a i).length + 1) 16 := by rw [nmL_len]; simp only [roomFor]; omega
    simp only [go_sem, h, hw, hw2, hw3, hb, hs, hr]
    refine roundK.intro (i + 1) (by omega) (by omega) ?_
    simp only [go_sem, nmL_succ, nm1, List.map_append, List.map_cons, List.map_nil]
  · have e : i = n := by omega
    subst e
    simp only [go_sem, h]
end Go.AM

/-! ## HK -/
namespace Go.AM
open Go Go.Proofs Go.RowKit

/-- a rule that the deck deals -/
structure DealtR (ns np : Nat) (r : RD) : Prop where
  bare : bareB r = true
  src : 0 ≤ r.src ∧ r.src < ns
  dst : 0 ≤ r.dst ∧ r.dst < ns
  need : r.need.length = np ∧ ∀ x ∈ r.need, 0 ≤ x ∧ x ≤ 2
  give : r.give.length = np ∧ ∀ x ∈ r.give, 0 ≤ x ∧ x ≤ 2
  move : r.move.length = 0 ∨ (r.move.length = np ∧ ∀ x ∈ r.move, -1 ≤ x ∧ x ≤ np - 1)
def emptyB : ByteArray := ⟨#[]⟩
def dec1 (x : Int) : Int := x - 1

set_option maxRecDepth 100000 in
set_option maxHeartbeats 4000000 in
theorem con_dRule1 (l : List Int) (s : DS) (m : MD) (hd : Dk l s) (hk : m.kind = 1) (h1 : 1 ≤ m.states.length ∧ m.states.length ≤ 8) (h2 : 1 ≤ m.places.length ∧ m.places.length ≤ 6) :
    Con Tryz.prog 61 [.pb 0 0, hidA m] [deckA l s] fun r b => ∃ (x : RD) (s' : DS), DealtR m.states.length m.places.length x ∧ x.name = emptyB ∧ Dk l s' ∧ r = vRule x ∧ b = [deckA l s'] := by
  have key : Con Tryz.prog 61 [.pb 0 0, hidA m] [deckA l s] fun r b => ∃ (x : RD) (s' : DS) (mv : AV), DealtR m.states.length m.places.length x ∧ x.name = emptyB ∧ Dk l s' ∧ leV (mv.freeze fun _ => true) (vs 0 x.move) ∧
      r = .ag [vStr emptyB, vi x.src, vi x.dst, vs 0 x.need, vs 0 x.give, mv, vi 0, vi 0, vi 0, .nil, .nil, .nil, .nil, vi 0] ∧ b = [deckA l s'] := by
    refine Con.intro Tryz.func61 rfl Tryz.ntmps61 Tryz.results61 (by kernel_rfl) (by simp) 1 (by simp) ?_
    have hn1 := nextV_lt (l := l) (s := s) (n := m.states.length) (by omega)
    have hd2 : Dk l (nextS l s m.states.length) := nextS_dk hd
    have hn2 := nextV_lt (l := l) (s := nextS l s m.states.length) (n := m.states.length) (by omega)
    have hd3 : Dk l (nextS l (nextS l s m.states.length) m.states.length) := nextS_dk hd2
    simp only [go_sem, hk]
    refine DrawK.news0 [(11, 3)] [14] [] 0 [4, 9] [] 12 (.one 12 .done) none (deckA l s) mixed (by kernel_rfl) (by kernel_rfl) (by kernel_rfl) (by simp only [go_sem]) (by simp only [go_sem]) ⟨by simp only [go_sem], by simp only [go_sem]⟩ ⟨by simp only [go_sem], by simp only [go_sem]⟩ ?_
    simp only [go_sem, List.length_map]
    refine EffK.mk (con_dNext l s m.states.length hd) (by simp only [go_sem]) (by simp only [go_sem]) (by simp only [go_sem]) (by simp only [go_sem]) ?_
    simp only [go_sem, List.length_map]
    refine EffK.mk (con_dNext l (nextS l s m.states.length) m.states.length hd2) (by simp only [go_sem]) (by simp only [go_sem]) (by simp only [go_sem]) (by simp only [go_sem]) ?_
    generalize nextV l s m.states.length = src at hn1
    generalize nextV l (nextS l s m.states.length) m.states.length = dst at hn2
    generalize nextS l (nextS l s m.states.length) m.states.length = s2 at hd3
    have hrep : List.replicate 14 AV.any = [.any, .any, .any, .any, .any, .any, .any, .any, .any, .any, .any, .any, .any, .any] := rfl
    simp only [go_sem, hrep]
    refine ⟨?_, trivial⟩
    have hd4 : Dk l (smS l s2 2 m.places.length) := smS_dk hd3 _
    have hd5 : Dk l (smS l (smS l s2 2 m.places.length) 2 m.places.length) := smS_dk hd4 _
    have hV1 := smV_low (l := l) (s := s2) (most := 2) (by omega) m.places.length
    have hL1 := smV_len (l := l) (s := s2) (most := 2) m.places.length
    have hV2 := smV_low (l := l) (s := smS l s2 2 m.places.length) (most := 2) (by omega) m.places.length
    have hL2 := smV_len (l := l) (s := smS l s2 2 m.places.length) (most := 2) m.places.length
    refine CallU.boxes (i := 0) (is := []) (bx0 := [deckA l s2]) (con_dSmallF l s2 m.places.length 2 hd3 (by omega) (by omega)) (by simp only [go_sem]) (by simp only [go_sem]) (by simp only [go_sem]) (by simp only [go_sem]) (by simp only [go_sem]) ?_
    rintro r b ⟨rfl, rfl⟩
    simp only [go_sem]
    refine CallU.boxes (i := 0) (is := []) (bx0 := [deckA l (smS l s2 2 m.places.length)]) (con_dSmallF l (smS l s2 2 m.places.length) m.places.length 2 hd4 (by omega) (by omega)) (by simp only [go_sem]) (by simp only [go_sem]) (by simp only [go_sem]) (by simp only [go_sem]) (by simp only [go_sem]) ?_
    rintro r b ⟨rfl, rfl⟩
    generalize smV l (smS l s2 2 m.places.length) 2 m.places.length = gv at hV2 hL2
    generalize smS l (smS l s2 2 m.places.length) 2 m.places.length = s4 at hd5
    generalize smV l s2 2 m.places.length = nd at hV1 hL1
    simp only [go_sem]
    refine CallU.boxes (i := 0) (is := []) (bx0 := [deckA l s4]) (con_dOne l s4 3 hd5) (by simp only [go_sem]) (by simp only [go_sem]) (by simp only [go_sem]) (by simp only [go_sem]) (by simp only [go_sem]) ?_
    rintro r b ⟨rfl, rfl⟩
    have hd6 : Dk l (nextS l s4 3) := nextS_dk hd5
    cases ho : oneV l s4 3
    case false =>
      simp only [go_sem]
      exact ⟨bareR emptyB src dst nd gv [], nextS l s4 3, .nil, ⟨rfl, hn1, hn2, ⟨hL1, hV1⟩, ⟨hL2, hV2⟩, .inl rfl⟩, rfl, hd6, leV_nil _ _, rfl, rfl⟩
    simp only [go_sem]
    generalize nextS l s4 3 = s5 at hd6
    refine LoopK.intro (fun i : Nat => ⟨168, [(0, .pb 0 0), (4, .pb 2 0), (5, .pb 3 0), (6, vi m.places.length), (7, vi i)], [deckA l (smS l s5 m.places.length i), [vi 1, vss m.states, vss m.places, vss m.letters, vs 0 m.ranks, vi m.levels, vi m.age, .any, .any, .any],
        [vStr emptyB, vi 0, vi 0, .nil, .nil, .nil, vi 0, vi 0, vi 0, .nil, .nil, .nil, .nil, vi 0], [vStr emptyB, vi src, vi dst, vs 0 nd, vs 0 gv, vs 3328 ((smV l s5 m.places.length i).map dec1), vi 0, vi 0, vi 0, .nil, .nil, .nil, .nil, vi 0]]⟩)
      (fun i => m.places.length - i) (fun i => i ≤ m.places.length) 0 (by omega) ?_ ?_
    · simp only [go_sem, smV, smS, List.map_nil, vss, emptyB]
      all_goals exact leV_nil _ _
    rintro i hi
    by_cases h : i < m.places.length
    · have hw : IntKind.i64.wrap (i + 1) = i + 1 := wrap_in (by omega) (by omega)
      have hw2 : IntKind.i64.wrap ((m.places.length : Int) + 1) = (m.places.length : Int) + 1 := wrap_in (by omega) (by omega)
      have hx := nextV_lt (l := l) (s := smS l s5 m.places.length i) (n := (m.places.length : Int) + 1) (by omega)
      have hw3 : IntKind.i64.wrap (nextV l (smS l s5 m.places.length i) ((m.places.length : Int) + 1) - 1) = dec1 (nextV l (smS l s5 m.places.length i) ((m.places.length : Int) + 1)) := wrap_in (by omega) (by omega)
      have hr : roomFor ((smV l s5 m.places.length i).length + 1) 8 := by rw [smV_len]; simp only [roomFor]; omega
      simp only [go_sem, h]
      refine DrawK.effs0 0 [5] [] 8 (.one 8 (.front 9 (.one 10 .done))) none (deckA l (smS l s5 m.places.length i)) mixed (by kernel_rfl) (by kernel_rfl) (by simp only [go_sem]) (by simp only [go_sem]) ?_
      simp only [go_sem, hw2]
      refine EffK.mk (con_dNext l (smS l s5 m.places.length i) ((m.places.length : Int) + 1) (smS_dk hd6 i)) (by simp only [go_sem]) (by simp only [go_sem]) (by simp only [go_sem]) (by simp only [go_sem]) ?_
      simp only [go_sem, hw, hw3]
      refine ⟨⟨hr, roundK.intro (i + 1) (by omega) (by omega) ?_⟩, trivial⟩
      simp only [go_sem, smV, smS, List.map_append, List.map_cons, List.map_nil]
      exact leV_refl _
    · have e : i = m.places.length := by omega
      subst e
      have hmv : ∀ x ∈ (smV l s5 m.places.length m.places.length).map dec1, -1 ≤ x ∧ x ≤ (m.places.length : Int) - 1 := fun x hx => by
        obtain ⟨y, hy, rfl⟩ := List.mem_map.1 hx
        have := smV_low (l := l) (s := s5) (most := m.places.length) (by omega) m.places.length y hy
        unfold dec1; omega
      simp only [go_sem, h]
      refine ⟨bareR emptyB src dst nd gv ((smV l s5 m.places.length m.places.length).map dec1), smS l s5 m.places.length m.places.length, vs 2 ((smV l s5 m.places.length m.places.length).map dec1), ⟨rfl, hn1, hn2, ⟨hL1, hV1⟩, ⟨hL2, hV2⟩, .inr ⟨by show ((smV l s5 m.places.length m.places.length).map dec1).length = _; rw [List.length_map, smV_len], hmv⟩⟩, rfl, smS_dk hd6 _, leV_refl _, ?_, rfl⟩
      simp only [go_sem]
  refine (key.freezeB fun _ => true).weak fun r b ⟨r1, b1, ⟨x, s', mv, h1, h2, h3, h4, h5, h6⟩, h7, h8⟩ => ?_
  subst h5; subst h6; subst h7; subst h8
  refine ⟨vRule x, ⟨x, s', h1, h2, h3, rfl, rfl⟩, ?_⟩
  have hb := bare_of h1.bare
  have e1 : Sub .nil (vs 0 []) := Sub.nil 1
  have e3 : Sub .nil (.sl 0 3 (([] : List (Int × Int × Int)).map vTake)) := Sub.nil 3
  have hv : vRule x = .ag [vStr emptyB, vi x.src, vi x.dst, vs 0 x.need, vs 0 x.give, vs 0 x.move, vi 0, vi 0, vi 0, vs 0 [], vs 0 [], .sl 0 3 [], vs 0 [], vi 0] := by
    rw [← h2]; rw [hb]; rfl
  rw [hv]
  exact leV_ag ⟨leV_refl _, leV_refl _, leV_refl _, leV_refl _, leV_refl _, h4, leV_refl _, leV_refl _, leV_refl _, leV_nil _ _, leV_nil _ _, leV_nil _ _, leV_nil _ _, leV_refl _, trivial⟩
end Go.AM

/-! ## HL -/
namespace Go.AM
open Go Go.Proofs Go.RowKit

def qB : ByteArray := ⟨#[113]⟩
def pB : ByteArray := ⟨#[112]⟩
def rB : ByteArray := ⟨#[114]⟩
/-- the rules' names: they count down -/
def rkL (k j : Nat) : List ByteArray := (List.range j).map fun t => nm1 rB (k - t)
theorem rk_succ (k j : Nat) : rkL k (j + 1) = rkL k j ++ [nm1 rB (k - j)] := by unfold rkL; rw [List.range_succ, List.map_append]; rfl
def dealtM (ns np : Nat) (rules : List RD) (st : CV) : MD := { kind := 1, states := nmL qB ns, places := nmL pB np, letters := [], ranks := [], levels := 0, age := 0, rules := rules, start := st }
theorem names_all {ns np k : Nat} (h1 : 1 ≤ ns ∧ ns ≤ 3) (h2 : 1 ≤ np ∧ np ≤ 3) (h3 : k ≤ 4) : namesB (nmL qB ns ++ nmL pB np ++ rkL k k) = true := by
  have a1 : ns = 1 ∨ ns = 2 ∨ ns = 3 := by omega
  have a2 : np = 1 ∨ np = 2 ∨ np = 3 := by omega
  have a3 : k = 0 ∨ k = 1 ∨ k = 2 ∨ k = 3 ∨ k = 4 := by omega
  have key : ∀ a ∈ [1, 2, 3], ∀ b ∈ [1, 2, 3], ∀ c ∈ [0, 1, 2, 3, 4], namesB (nmL qB a ++ nmL pB b ++ rkL c c) = true := by
    have : ([1, 2, 3].all fun a => [1, 2, 3].all fun b => [0, 1, 2, 3, 4].all fun c => namesB (nmL qB a ++ nmL pB b ++ rkL c c)) = true := by kernel_rfl
    intro a ha b hb c hc
    exact List.all_eq_true.1 (List.all_eq_true.1 (List.all_eq_true.1 this a ha) b hb) c hc
  exact key ns (by simp; omega) np (by simp; omega) k (by simp; omega)
/-- a counter model that the deck deals -/
structure DealtM (ns np : Nat) (rules : List RD) (x : Nat) (v : List Int) : Prop where
  hns : 1 ≤ ns ∧ ns ≤ 3
  hnp : 1 ≤ np ∧ np ≤ 3
  len : rules.length ≤ 4
  names : rules.map RD.name = rkL rules.length rules.length
  rules : ∀ r ∈ rules, DealtR ns np r
  start : x < ns ∧ v.length = np ∧ ∀ y ∈ v, 0 ≤ y ∧ y ≤ 3
theorem dealt_ruleB {ns np : Nat} {r : RD} (h : DealtR ns np r) : ruleB ns np r = true := by
  unfold ruleB changesB movesB smallB indexB betweenB
  have h1 := h.src; have h2 := h.dst; have h3 := h.need; have h4 := h.give
  simp only [Bool.and_eq_true, Bool.or_eq_true, decide_eq_true_eq, List.all_eq_true, beq_iff_eq]
  exact ⟨⟨⟨⟨h2.1, h2.2⟩, h1.1, h1.2⟩, ⟨⟨h3.1, h4.1⟩, fun x hx => by have := h3.2 x hx; omega⟩, fun x hx => by have := h4.2 x hx; omega⟩, h.move⟩
theorem cfg_conf {ns np x : Nat} {v : List Int} (hx : x < ns) (hl : v.length = np) (hv : ∀ y ∈ v, 0 ≤ y ∧ y ≤ 1048576) : confB ns np (cfgC x v) = true := by
  have a1 : (v.map fun n => CV.mk n []).all (fun k => decide (0 ≤ k.n) && decide (k.n ≤ 1048576) && k.kids.length == 0) = true := by
    rw [List.all_map, List.all_eq_true]
    intro n hn
    have := hv n hn
    show (decide (0 ≤ n) && decide (n ≤ 1048576) && true) = true
    rw [decide_eq_true this.1, decide_eq_true this.2]; rfl
  have a2 : decide ((0 : Int) ≤ (x : Int)) = true := decide_eq_true (by omega)
  have a3 : decide ((x : Int) < (ns : Int)) = true := decide_eq_true (by omega)
  have a4 : ((v.map fun n => CV.mk n []).length == np) = true := by rw [List.length_map, hl]; simp
  show (((((((0 : Int) == 0) && decide ((0 : Int) ≤ (x : Int))) && decide ((x : Int) < (ns : Int))) && true) && ((v.map fun n => CV.mk n []).length == np)) && (v.map fun n => CV.mk n []).all (fun k => decide (0 ≤ k.n) && decide (k.n ≤ 1048576) && k.kids.length == 0)) = true
  rw [a1, a2, a3, a4]; rfl
theorem DealtM.good {ns np x : Nat} {rules : List RD} {v : List Int} (h : DealtM ns np rules x v) : GoodM (dealtM ns np rules (cfgC x v)) := by
  have h1 := h.hns; have h2 := h.hnp; have h3 := h.len
  have l1 : (dealtM ns np rules (cfgC x v)).states.length = ns := nmL_len _ _
  have l2 : (dealtM ns np rules (cfgC x v)).places.length = np := nmL_len _ _
  refine ⟨rfl, by rw [l1]; omega, by rw [l2]; omega, by show rules.length ≤ 12; omega, rfl, rfl, rfl, rfl, ?_, fun r hr => ?_, ?_⟩
  · show namesB (nmL qB ns ++ nmL pB np ++ [] ++ rules.map RD.name) = true
    rw [List.append_nil, h.names]
    exact names_all h1 h2 h3
  · rw [l1, l2]
    exact ⟨dealt_ruleB (h.rules r hr), (h.rules r hr).bare⟩
  · rw [l1, l2]
    exact cfg_conf h.start.1 h.start.2.1 fun y hy => by have := h.start.2.2 y hy; omega
theorem dealt_own {ns np : Nat} {rules : List RD} {st : CV} (h1 : 1 ≤ ns ∧ ns ≤ 3) (h2 : 1 ≤ np ∧ np ≤ 3) : Own (dealtM ns np rules st) := by
  have l1 : (dealtM ns np rules st).states.length = ns := nmL_len _ _
  have l2 : (dealtM ns np rules st).places.length = np := nmL_len _ _
  refine ⟨rfl, by rw [l1]; omega, by rw [l2]; omega, rfl, rfl, rfl, rfl, ?_⟩
  have := names_all (k := 0) h1 h2 (by omega)
  rw [show rkL 0 0 = [] from rfl, List.append_nil] at this
  exact this
theorem con_namesF (a : ByteArray) (n : Nat) (ha : a.size ≤ 10) (hn : n ≤ 9) : Con Tryz.prog 59 [vStr a, vi n] [] fun r _ => r = vss (nmL a n) :=
  (Con.freezeR (fun _ => true) (con_names a n ha hn)).weak fun r b ⟨r0, h0, h1⟩ => by
    subst h0; subst h1
    exact ⟨_, rfl, leV_refl _⟩

set_option maxRecDepth 100000 in
set_option maxHeartbeats 4000000 in
theorem con_dModel1 (l : List Int) (s : DS) (hd : Dk l s) : Con Tryz.prog 19 [.pb 0 0, vi 1] [deckA l s]
    fun r b => ∃ (ns np : Nat) (rules : List RD) (x : Nat) (v : List Int) (s' : DS), DealtM ns np rules x v ∧ Dk l s' ∧ r = vM (dealtM ns np rules (cfgC x v)) ∧ b = [deckA l s'] := by
  have key : Con Tryz.prog 19 [.pb 0 0, vi 1] [deckA l s]
    fun r b => ∃ (ns np : Nat) (rules : List RD) (x : Nat) (v : List Int) (s' : DS) (ru : AV), DealtM ns np rules x v ∧ Dk l s' ∧ leV (ru.freeze fun _ => true) (.sl 0 14 (rules.map vRule)) ∧
      r = .ag [vi 1, vss (nmL qB ns), vss (nmL pB np), .nil, .nil, vi 0, vi 0, ru, vi 0, .sl 3 2 (kidZ x :: v.map kidZ)] ∧ b = [deckA l s'] := by
    refine Con.intro Tryz.func19 rfl Tryz.ntmps19 Tryz.results19 (by kernel_rfl) (by simp) 1 (by simp) ?_
    simp only [go_sem]
    refine CallU.boxes (i := 0) (is := []) (bx0 := [deckA l s]) (con_dNext l s 3 hd) (by simp only [go_sem]) (by simp only [go_sem]) (by simp only [go_sem]) (by simp only [go_sem]) (by simp only [go_sem]) ?_
    rintro r b ⟨rfl, rfl⟩
    have hn1 := nextV_lt (l := l) (s := s) (n := 3) (by omega)
    have hd1 : Dk l (nextS l s 3) := nextS_dk hd
    obtain ⟨ns, ens, hns⟩ : ∃ ns : Nat, 1 + nextV l s 3 = ns ∧ (1 ≤ ns ∧ ns ≤ 3) := ⟨(1 + nextV l s 3).toNat, by omega, by omega⟩
    have hw1 : IntKind.i64.wrap (1 + nextV l s 3) = ns := by rw [wrap_in (by omega) (by omega), ens]
    simp only [go_sem, hw1]
    refine CallU.free (con_namesF qB ns (by decide) (by omega)) (by simp only [go_sem]) (by simp only [go_sem, qB]) ?_
    rintro r b rfl
    generalize nextS l s 3 = s1 at hd1
    simp only [go_sem]
    refine CallU.boxes (i := 0) (is := []) (bx0 := [deckA l s1]) (con_dNext l s1 3 hd1) (by simp only [go_sem]) (by simp only [go_sem]) (by simp only [go_sem]) (by simp only [go_sem]) (by simp only [go_sem]) ?_
    rintro r b ⟨rfl, rfl⟩
    have hn2 := nextV_lt (l := l) (s := s1) (n := 3) (by omega)
    have hd2 : Dk l (nextS l s1 3) := nextS_dk hd1
    obtain ⟨np, enp, hnp⟩ : ∃ np : Nat, 1 + nextV l s1 3 = np ∧ (1 ≤ np ∧ np ≤ 3) := ⟨(1 + nextV l s1 3).toNat, by omega, by omega⟩
    have hw2 : IntKind.i64.wrap (1 + nextV l s1 3) = np := by rw [wrap_in (by omega) (by omega), enp]
    simp only [go_sem, hw2]
    refine CallU.free (con_namesF pB np (by decide) (by omega)) (by simp only [go_sem]) (by simp only [go_sem, pB]) ?_
    rintro r b rfl
    generalize nextS l s1 3 = s2 at hd2
    simp only [go_sem]
    refine CallU.boxes (i := 0) (is := []) (bx0 := [deckA l s2]) (con_dNext l s2 5 hd2) (by simp only [go_sem]) (by simp only [go_sem]) (by simp only [go_sem]) (by simp only [go_sem]) (by simp only [go_sem]) ?_
    rintro r b ⟨rfl, rfl⟩
    have hn3 := nextV_lt (l := l) (s := s2) (n := 5) (by omega)
    have hd3 : Dk l (nextS l s2 5) := nextS_dk hd2
    obtain ⟨k, ek, hk⟩ : ∃ k : Nat, nextV l s2 5 = k ∧ k ≤ 4 := ⟨(nextV l s2 5).toNat, by omega, by omega⟩
    generalize nextS l s2 5 = s3 at hd3
    simp only [go_sem, ek]
    refine LoopK.intro (fun p : List RD × DS => ⟨103, [(0, .pb 0 0), (1, vi 1), (4, .pb 1 0), (5, .pb 2 0), (6, vi ((k - p.1.length : Nat) : Int))], deckA l p.2 :: [vi 0, .nil, .nil, .nil, .nil, vi 0, vi 0, .nil, vi 0, .nil] ::
        [vi 1, vss (nmL qB ns), vss (nmL pB np), .nil, .nil, vi 0, vi 0, .sl 6080 14 (p.1.map vRule), vi 0, .nil] :: Rk 14 p.1.length⟩)
      (fun p => k - p.1.length) (fun p => p.1.length ≤ k ∧ Dk l p.2 ∧ p.1.map RD.name = rkL k p.1.length ∧ ∀ r ∈ p.1, DealtR ns np r) ([], s3) ⟨by simp, hd3, rfl, fun r hr => by cases hr⟩ ?_ ?_
    · simp only [go_sem, List.length_nil, Nat.sub_zero, List.map_nil, vss]
      exact leB_self _
    rintro ⟨rules, s4⟩ ⟨h1, h2, h3, h4⟩
    simp only at h1 h2 h3 h4
    have l1 : (dealtM ns np [] zeroV).states.length = ns := nmL_len _ _
    have l2 : (dealtM ns np [] zeroV).places.length = np := nmL_len _ _
    have hB := Rk_len 14 rules.length
    have n0 := fun L : List (List AV) => app_at0 (L := L) hB
    have s0 := fun (L : List (List AV)) z => app_set0 (L := L) (z := z) hB
    by_cases h : rules.length < k
    · have hgt : (0 : Int) < ((k - rules.length : Nat) : Int) := by omega
      have hru := con_dRule1 l s4 (dealtM ns np [] zeroV) h2 rfl (by rw [l1]; omega) (by rw [l2]; omega)
      rw [l1, l2] at hru
      simp only [go_sem, hgt]
      refine CallU.hide [] [.pb 0 0, hidA (dealtM ns np [] zeroV)] (i := 0) (is := []) (bx0 := [deckA l s4]) hru (by simp only [go_sem]) ?_ (by simp only [go_sem]) (by simp only [go_sem]) (by simp only [go_sem]) (by simp only [go_sem]) (by simp only [go_sem]) ?_
      · simp only [go_sem]
        exact leV_ag ⟨leV_refl _, leV_refl _, leV_refl _, leV_nil _ _, leV_nil _ _, leV_refl _, leV_refl _, leV_any _, leV_any _, leV_any _, trivial⟩
      rintro r b ⟨x, s5, g1, g2, g3, rfl, rfl⟩
      obtain ⟨q, hq⟩ : ∃ q, q = k - rules.length := ⟨_, rfl⟩
      rw [← hq]
      have hw3 : IntKind.i64.wrap (48 + (q : Int)) = 48 + q := wrap_in (by omega) (by omega)
      have hw4 : IntKind.u8.wrap (48 + (q : Int)) = 48 + q := by rw [IntKind.wrap_u8]; omega
      have hb : bytesOf [.sc (.int .u8 (48 + (q : Int)))] = some [48 + (q : Int)] := rfl
      have e1 : (strOf [48 + (q : Int)]).size = 1 := rfl
      have hw5 : IntKind.i64.wrap ((q : Int) - 1) = ((k - (rules.length + 1) : Nat) : Int) := by rw [wrap_in (by omega) (by omega)]; omega
      simp only [go_sem, hB, n0, s0, hw3, hw4, hb, hw5]
      have hx : DealtR ns np { x with name := nm1 rB q } := ⟨g1.bare, g1.src, g1.dst, g1.need, g1.give, g1.move⟩
      refine ⟨by rw [e1]; omega, by simp only [roomFor]; omega, roundK.intro (rules ++ [{ x with name := nm1 rB q }], s5) ⟨by rw [List.length_append]; show rules.length + 1 ≤ k; omega, g3, ?_, fun r hr => ?_⟩ (by show k - (rules ++ [_]).length < k - rules.length; rw [List.length_append]; show k - (rules.length + 1) < _; omega) ?_⟩
      · show (rules ++ [{ x with name := nm1 rB q }]).map RD.name = rkL k (rules ++ [_]).length
        rw [List.length_append, List.map_append, h3]
        show rkL k rules.length ++ [nm1 rB q] = rkL k (rules.length + 1)
        rw [rk_succ, hq]
      · rcases List.mem_append.1 hr with hr | hr
        · exact h4 r hr
        · rw [List.mem_singleton] at hr; subst hr; exact hx
      · simp only [go_sem, Rk_succ, List.length_append, List.length_cons, List.length_nil, List.map_append, List.map_cons, List.map_nil, nm1, rB]
        exact leB_RkA ⟨leC_any _ 14 rfl, trivial⟩
    · have ek2 : rules.length = k := by omega
      have hgt : ¬ (0 : Int) < ((k - rules.length : Nat) : Int) := by omega
      obtain ⟨x, v, e, g1, g2, g3⟩ := cfV_cons (l := l) (s := s4) hns.1 np
      have hcf := con_dConfig l s4 (dealtM ns np [] zeroV) (dealt_own hns hnp) h2 x v (by rw [l1, l2]; exact e) (by rw [l1, l2]; exact cfg_conf g1 g2 fun y hy => by have := g3 y hy; omega)
      rw [l1, l2] at hcf
      simp only [go_sem, hgt]
      refine CallU.hide [] [.pb 0 0, hidA (dealtM ns np [] zeroV)] (i := 0) (is := []) (bx0 := [deckA l s4]) hcf (by simp only [go_sem]) ?_ (by simp only [go_sem]) (by simp only [go_sem]) (by simp only [go_sem]) (by simp only [go_sem]) (by simp only [go_sem]) ?_
      · simp only [go_sem]
        exact leV_ag ⟨leV_refl _, leV_refl _, leV_refl _, leV_nil _ _, leV_nil _ _, leV_refl _, leV_refl _, leV_any _, leV_any _, leV_any _, trivial⟩
      rintro r b ⟨rfl, rfl⟩
      simp only [go_sem]
      exact ⟨ns, np, rules, x, v, cfS l s4 ns (np + 1), .sl 2 14 (rules.map vRule), ⟨hns, hnp, by omega, by rw [h3, ek2], h4, ⟨g1, g2, g3⟩⟩, cfS_dk h2 _, leV_refl _, rfl, rfl⟩
  refine (key.freezeB fun _ => true).weak fun r b ⟨r1, b1, ⟨ns, np, rules, x, v, s', ru, h1, h2, h3, h4, h5⟩, h7, h8⟩ => ?_
  subst h4; subst h5; subst h7; subst h8
  refine ⟨vM (dealtM ns np rules (cfgC x v)), ⟨ns, np, rules, x, v, s', h1, h2, rfl, rfl⟩, ?_⟩
  unfold vM cM
  exact leV_ag ⟨leV_refl _, leV_refl _, leV_refl _, leV_nil _ _, leV_nil _ _, leV_refl _, leV_refl _, h3, leV_refl _, by rw [show (dealtM ns np rules (cfgC x v)).start = cfgC x v from rfl, cfg_kids]; exact leV_refl _, trivial⟩
end Go.AM

/-! ## HO -/
namespace Go.AM
open Go Go.Proofs Go.RowKit

/-- so many places grown -/
def upL (v w : List Int) (k : Nat) : List Int := (List.range v.length).map fun j => if j < k then min 1048576 (v[j]! + w[j]!) else v[j]!
theorem upL_len (v w : List Int) (k : Nat) : (upL v w k).length = v.length := by simp [upL]
theorem upL_at {v w : List Int} {k j : Nat} (h : j < v.length) : (upL v w k)[j]! = if j < k then min 1048576 (v[j]! + w[j]!) else v[j]! := by
  rw [getElem!_pos _ j (by rw [upL_len]; exact h)]
  simp [upL]
theorem upL_zero (v w : List Int) : upL v w 0 = v := by
  refine List.ext_getElem (upL_len v w 0) fun j h1 h2 => ?_
  have := upL_at (w := w) (k := 0) h2
  rw [getElem!_pos _ j h1, if_neg (by omega), getElem!_pos v j h2] at this
  exact this
theorem upL_set {v w : List Int} {k : Nat} (_h : k < v.length) : (upL v w k).set k (min 1048576 (v[k]! + w[k]!)) = upL v w (k + 1) := by
  refine List.ext_getElem (by simp [upL]) fun j h1 h2 => ?_
  have hj : j < v.length := by rw [upL_len] at h2; exact h2
  rw [List.getElem_set]
  have e1 := upL_at (w := w) (k := k) hj
  have e2 := upL_at (w := w) (k := k + 1) hj
  rw [getElem!_pos _ j (by rw [upL_len]; exact hj)] at e1
  rw [getElem!_pos _ j h2] at e2
  rw [e2]
  by_cases hkj : k = j
  · subst hkj; rw [if_pos rfl, if_pos (by omega)]
  · rw [if_neg hkj, e1]
    by_cases hlt : j < k
    · rw [if_pos hlt, if_pos (by omega)]
    · rw [if_neg hlt, if_neg (by omega)]
theorem modK {s : Nat} {v : List Int} {k : Nat} {x : Int} (_h : k < v.length) : (kidZ s :: v.map kidZ).modify (k + 1) (updElem 0 [.sc (.int .i64 x)]) = kidZ s :: (v.set k x).map kidZ := by
  rw [List.modify_succ_cons]
  congr 1
  refine List.ext_getElem (by simp) fun j h1 h2 => ?_
  rw [List.getElem_modify, List.getElem_map, List.getElem_map, List.getElem_set]
  split
  · rfl
  · rfl

set_option maxRecDepth 100000 in
set_option maxHeartbeats 4000000 in
theorem con_dAbove (l : List Int) (st : DS) (m : MD) (s : Nat) (v : List Int) (hd : Dk l st) (h : GoodM m) (hc : GoodC m s v) :
    Con Tryz.prog 52 [.pb 0 0, vM m, cfgO 0 s v] [deckA l st] fun r b => ∃ (v' : List Int) (st' : DS), (v'.length = m.places.length ∧ ∀ i, i < m.places.length → v[i]! ≤ v'[i]! ∧ v'[i]! ≤ 1048576) ∧ Dk l st' ∧ r = cfgO 2 s v' ∧ b = [deckA l st'] := by
  refine Con.intro Tryz.func52 rfl Tryz.ntmps52 Tryz.results52 (by kernel_rfl) (by simp) 1 (by simp) ?_
  have h1 := h.states; have h2 := h.places
  have hvl := hc.len
  have hk := h.kind
  simp only [go_sem, vM, cM, vss, hk]
  refine CallU.free (con_mTypeGF m h) (by simp only [go_sem]) (by simp only [go_sem, vM, cM, vss, hk]) ?_
  rintro r bx rfl
  simp only [go_sem]
  refine LoopK.intro (fun _ : Nat => ⟨130, [(0, .pb 0 0), (4, .pb 1 0), (5, .pb 2 0), (6, .pb 3 0), (7, .pb 4 0), (8, vi 0)], [deckA l st, [vi 1, vss m.states, vss m.places, vss m.letters, vs 0 m.ranks, vi m.levels, vi m.age, .sl 0 14 (m.rules.map vRule), vi m.start.n, .sl 0 2 (m.start.kids.map vV)], [vi 0, .sl 0 2 (kidZ s :: v.map kidZ)], [vi 0, .nil], [vi 3, vi 0, .nil, .sl 0 4 ((partsP m.states.length m.places.length).map vPT)]]⟩)
    (fun i => 1 - i) (fun i => i ≤ 0) 0 (by omega) ?_ ?_
  · simp only [go_sem, vss]
    all_goals exact leB_self _
  rintro i hi
  obtain ⟨x, w, e, g1, g2, g3⟩ := cfV_cons (l := l) (s := st) h1.1 m.places.length
  have hval := con_dValue l st m.states.length m.places.length x w hd (by omega) (by omega) (by omega) e (cfg_conf g1 g2 fun y hy => by have := g3 y hy; omega)
  have hd2 : Dk l (cfS l st m.states.length (m.places.length + 1)) := cfS_dk hd _
  simp only [go_sem, vss]
  refine CallU.boxes (i := 0) (is := []) (bx0 := [deckA l st]) hval (by simp only [go_sem]) (by simp only [go_sem]) (by simp only [go_sem]) (by simp only [go_sem]) (by simp only [go_sem]) ?_
  rintro r b ⟨rfl, rfl⟩
  generalize cfS l st m.states.length (m.places.length + 1) = st2 at hd2
  have q1 : (0 : Int) < (v.length : Int) + 1 := by omega
  have q2 : (0 : Int) < (w.length : Int) + 1 := by omega
  simp only [go_sem]
  refine DrawK.walk 7 mixed (by kernel_rfl) ?_
  have hm0 : (AV.ag [.sc (.int .i64 x), .sl 0 2 []] :: w.map kidZ).modify 0 (updElem 0 [.sc (.int .i64 s), .sl 0 2 []]) = AV.ag [.sc (.int .i64 s), .sl 0 2 []] :: w.map kidZ := rfl
  have hcp := con_rcopyV (cfgC s v) (slim_cfg (by omega))
  rw [cfgZ_eq, cfg_own] at hcp
  simp only [go_sem, q1, q2, hm0]
  refine CallU.free hcp (by simp only [go_sem]) (by simp only [go_sem]) ?_
  rintro r bx rfl
  simp only [go_sem]
  have hw0 : ∀ j, j < w.length → 0 ≤ w[j]! ∧ w[j]! ≤ 3 := fun j hj => g3 _ (mem_bangI hj)
  refine LoopK.intro (fun k : Nat => ⟨130, [(0, .pb 0 0), (4, .pb 1 0), (5, .pb 2 0), (6, .pb 3 0), (7, .pb 4 0), (8, vi 0), (9, .pb 5 0), (10, .pb 6 0), (11, vi ((k + 1 : Nat) : Int))], [deckA l st2, [vi 1, vss m.states, vss m.places, vss m.letters, vs 0 m.ranks, vi m.levels, vi m.age, .sl 0 14 (m.rules.map vRule), vi m.start.n, .sl 0 2 (m.start.kids.map vV)], [vi 0, .sl 0 2 (kidZ s :: v.map kidZ)], [vi 0, .nil], [vi 3, vi 0, .nil, .sl 0 4 ((partsP m.states.length m.places.length).map vPT)],
      [vi 0, .sl 1474 2 (kidZ s :: w.map kidZ)], [vi 0, .sl 2050 2 (kidZ s :: (upL v w k).map kidZ)]]⟩)
    (fun k => v.length - k) (fun k => k ≤ v.length) 0 (by omega) ?_ ?_
  · simp only [go_sem, vss, upL_zero]
  rintro k hkl
  have hul := upL_len v w k
  by_cases hlt : k < v.length
  · have q3 : (k : Int) + 1 < ((upL v w k).length : Int) + 1 := by omega
    have q4 : (k : Int) + 1 < (w.length : Int) + 1 := by omega
    have hgk := getZ (v := upL v w k) (i := k) (by omega)
    have hgw := getZ (v := w) (i := k) (by omega)
    have eu : (upL v w k)[k]! = v[k]! := by rw [upL_at hlt, if_neg (by omega)]
    have b1 := hc.low _ (mem_bangI hlt)
    have b2 := hw0 k (by omega)
    have hw1 : IntKind.i64.wrap (v[k]! + w[k]!) = v[k]! + w[k]! := wrap_in (by omega) (by omega)
    have hw2 : IntKind.i64.wrap ((k : Int) + 1 + 1) = ((k + 1 + 1 : Nat) : Int) := by rw [wrap_in (by omega) (by omega)]; omega
    rw [eu] at hgk
    simp only [go_sem, q3]
    refine DrawK.walk 19 mixed (by kernel_rfl) ?_
    have ht : ((k : Int) + 1).toNat = k + 1 := by omega
    have hnn : (0 : Int) ≤ (k : Int) + 1 := by omega
    have hgk' : (AV.ag [.sc (.int .i64 s), .sl 0 2 []] :: (upL v w k).map kidZ)[k + 1]? = some (.ag [.sc (.int .i64 v[k]!), .sl 0 2 []]) := hgk
    have hgw' : (AV.ag [.sc (.int .i64 s), .sl 0 2 []] :: w.map kidZ)[k + 1]? = some (.ag [.sc (.int .i64 w[k]!), .sl 0 2 []]) := hgw
    have hmk : (AV.ag [.sc (.int .i64 s), .sl 0 2 []] :: (upL v w k).map kidZ).modify (k + 1) (updElem 0 [.sc (.int .i64 (min 1048576 (v[k]! + w[k]!)))]) = AV.ag [.sc (.int .i64 s), .sl 0 2 []] :: (upL v w (k + 1)).map kidZ := by
      rw [← upL_set hlt]
      exact modK (by omega)
    simp only [go_sem, q3, q4, ht, hnn, hgk', hgw', hw1, hmk, hw2]
    refine roundK.intro (k + 1) (by omega) (by omega) ?_
    simp only [go_sem]
  · have ek : k = v.length := by omega
    subst ek
    have q3 : ¬ ((v.length : Int) + 1 < ((upL v w v.length).length : Int) + 1) := by omega
    have hup : ∀ j, j < v.length → v[j]! ≤ (upL v w v.length)[j]! ∧ (upL v w v.length)[j]! ≤ 1048576 := fun j hj => by
      rw [upL_at hj, if_pos hj]
      have := hc.low _ (mem_bangI hj); have := hw0 j (by omega)
      omega
    have hcz : confB m.states.length m.places.length (cfgC s (upL v w v.length)) = true := cfg_conf hc.state (by omega) fun y hy => by
      obtain ⟨j, hj, e⟩ := List.getElem_of_mem hy
      rw [hul] at hj
      have h3 := hup j hj
      have h4 := hc.low _ (mem_bangI hj)
      rw [getElem!_pos (upL v w v.length) j (by omega), e] at h3
      omega
    have hso := con_rSorted m.states.length m.places.length (cfgC s (upL v w v.length)) (by omega) (by omega) (by omega) hcz
    have hle := con_rLeq m.states.length m.places.length s s v (upL v w v.length) (by omega) (by omega) (by omega) hc.conf hcz hvl (by omega)
    have hok : cfgLe s v s (upL v w v.length) = true := by
      unfold cfgLe
      simp only [beq_self_eq_true, Bool.true_and, List.all_eq_true, List.mem_range, decide_eq_true_eq]
      exact fun j hj => (hup j hj).1
    rw [cfgZ_eq, cfg_own] at hso
    rw [hok] at hle
    simp only [go_sem, q3]
    refine CallU.freeze hso (by simp only [go_sem]) (by simp only [go_sem]) ?_
    rintro r bx rfl
    simp only [go_sem]
    refine CallU.flat hle (by simp only [go_sem]) (by simp only [go_sem]) ?_
    rintro r bx rfl
    simp only [go_sem]
    exact ⟨upL v w v.length, st2, ⟨by omega, fun j hj => hup j (by omega)⟩, hd2, rfl, rfl⟩
end Go.AM

/-! ## HN -/
namespace Go.AM
open Go Go.Proofs Go.RowKit

theorem bang_set {l : List Int} {q j : Nat} {x : Int} (h : q < l.length) : (l.set q x)[j]! = if j = q then x else l[j]! := by
  by_cases hj : j < l.length
  · rw [getElem!_pos _ j (by rw [List.length_set]; exact hj), getElem!_pos l j hj, List.getElem_set]
    by_cases e : q = j
    · subst e; simp
    · rw [if_neg e, if_neg (fun e' => e e'.symm)]
  · rw [getElem!_neg _ j (by rw [List.length_set]; exact hj), getElem!_neg l j hj, if_neg (by omega)]

section
variable {ns np : Nat} {r : RD}
theorem moved_nat (h : RuleC ns np r) {i : Nat} (hi : i < np) (h0 : 0 ≤ movedF r i) (v : List Int) (k : Nat) : (movedF r i).toNat < (moveN r v k).length := by
  have := moved_lt h hi
  rw [moveN_len, h.give.1]; omega
/-- more leads to more -/
theorem move_mono (h : RuleC ns np r) {v v' : List Int} (hv : ∀ i, i < np → v[i]! ≤ v'[i]!) : ∀ k : Nat, k ≤ np → ∀ j : Nat, (moveN r v k)[j]! ≤ (moveN r v' k)[j]!
  | 0, _, j => Int.le_refl _
  | k + 1, hk, j => by
    have ih := move_mono h hv k (by omega)
    have h1 := hv k (by omega)
    unfold moveN
    split
    · rename_i h0
      rw [bang_set (moved_nat h (by omega) h0 v k), bang_set (moved_nat h (by omega) h0 v' k)]
      have h2 := ih (movedF r k).toNat
      have h3 := ih j
      split <;> omega
    · exact ih j
theorem en_mono {s : Nat} {v v' : List Int} (h : enF r s v = true) (hv : ∀ i, i < r.need.length → v[i]! ≤ v'[i]!) : enF r s v' = true := by
  obtain ⟨h1, h2⟩ := en_le h
  unfold enF
  simp only [Bool.and_eq_true, beq_iff_eq, List.all_eq_true, List.mem_range, decide_eq_true_eq]
  exact ⟨h1.symm, fun i hi => by have := h2 i hi; have := hv i hi; omega⟩

theorem sum_set : ∀ {l : List Int} {q : Nat} {x : Int}, q < l.length → (l.set q x).sum = l.sum - l[q]! + x
  | a :: l, 0, x, _ => by
    show (x :: l).sum = _
    rw [List.sum_cons, List.sum_cons]
    show _ = a + l.sum - a + x
    omega
  | a :: l, q + 1, x, h => by
    rw [List.length_cons] at h
    show (a :: l.set q x).sum = _
    rw [List.sum_cons, List.sum_cons, sum_set (by omega)]
    have : (a :: l)[q + 1]! = l[q]! := by rw [getElem!_pos _ (q + 1) (by rw [List.length_cons]; omega), getElem!_pos l q (by omega)]; rfl
    rw [this]; omega
/-- what is not emptied -/
def keptS (m v : List Int) : Nat → Int
  | 0 => 0
  | k + 1 => keptS m v k + if 0 ≤ m[k]! then v[k]! else 0
theorem zero_at {n : Nat} (j : Nat) : (List.replicate n (0 : Int))[j]! = 0 := by
  by_cases h : j < n
  · rw [getElem!_pos _ j (by rw [List.length_replicate]; exact h), List.getElem_replicate]
  · rw [getElem!_neg _ j (by rw [List.length_replicate]; exact h)]; rfl
theorem zero_sum : ∀ n : Nat, (List.replicate n (0 : Int)).sum = 0
  | 0 => rfl
  | n + 1 => by rw [List.replicate_succ, List.sum_cons, zero_sum n]; rfl
theorem moves_sum (h : RuleC ns np r) (hn : r.need = List.replicate np 0) (hg : r.give = List.replicate np 0) (hm : r.move.length = np) (hp : 0 < np) (v : List Int) : ∀ k : Nat, k ≤ np → (moveN r v k).sum = keptS r.move v k
  | 0, _ => by unfold moveN keptS; rw [hg]; exact zero_sum np
  | k + 1, hk => by
    have ih := moves_sum h hn hg hm hp v k (by omega)
    have e : movedF r k = r.move[k]! := by unfold movedF; rw [if_neg (by omega)]
    unfold moveN keptS
    rw [e]
    split
    · rename_i h0
      have h1 := moved_nat h (show k < np by omega) (by rw [e]; exact h0) v k
      rw [e] at h1
      rw [sum_set h1, ih, hn, zero_at]; omega
    · rw [ih]; omega
/-- a move that empties one place -/
def dropL (np p : Nat) : List Int := (List.range np).map fun i => if i = p then -1 else (i : Int)
theorem drop_len (np p : Nat) : (dropL np p).length = np := by simp [dropL]
theorem drop_at {np p i : Nat} (h : i < np) : (dropL np p)[i]! = if i = p then -1 else (i : Int) := by
  rw [getElem!_pos _ i (by rw [drop_len]; exact h)]
  simp [dropL]
theorem drop_moves (h : RuleC ns np r) {p : Nat} (hm : r.move = dropL np p) (hp : 0 < np) (v : List Int) : ∀ k : Nat, k ≤ np → ∀ j : Nat, (moveN r v k)[j]! = r.give[j]! + if j < k ∧ j ≠ p then v[j]! - r.need[j]! else 0
  | 0, _, j => by unfold moveN; rw [if_neg (by omega)]; omega
  | k + 1, hk, j => by
    have ih := drop_moves h hm hp v k (by omega)
    have e : movedF r k = if k = p then -1 else (k : Int) := by
      unfold movedF
      rw [if_neg (by rw [hm, drop_len]; omega), hm, drop_at (by omega)]
    unfold moveN
    rw [e]
    by_cases hkp : k = p
    · rw [if_pos hkp, if_neg (by omega), ih j]
      by_cases hj : j = k
      · rw [if_neg (by omega), if_neg (by omega)]
      · by_cases hj2 : j < k ∧ j ≠ p
        · rw [if_pos hj2, if_pos (by omega)]
        · rw [if_neg hj2, if_neg (by omega)]
    · rw [if_neg hkp, if_pos (by omega)]
      have hl : k < (moveN r v k).length := by rw [moveN_len, h.give.1]; omega
      have et : ((k : Nat) : Int).toNat = k := by omega
      rw [et, bang_set hl]
      by_cases hj : j = k
      · subst hj
        rw [if_pos rfl, ih j, if_neg (by omega), if_pos (by omega)]; omega
      · rw [if_neg hj, ih j]
        by_cases hj2 : j < k ∧ j ≠ p
        · rw [if_pos hj2, if_pos (by omega)]
        · rw [if_neg hj2, if_neg (by omega)]
end
end Go.AM

/-! ## HQ -/
namespace Go.AM
open Go Go.Proofs Go.RowKit

set_option maxRecDepth 100000 in
theorem con_dFew (l : List Int) : Con Tryz.prog 14 [vs 0 l] [] fun r _ => r = vb (decide ((l.length : Int) ≤ 400)) := by
  refine Con.intro Tryz.func14 rfl Tryz.ntmps14 Tryz.results14 (by kernel_rfl) (by simp) 0 (by simp) ?_
  simp only [go_sem]
theorem deck_dk {l : List Int} (h : (l.length : Int) ≤ 400) : Dk l (0, 11400714819323198485) := ⟨Nat.zero_le _, by omega⟩

def moveB : ByteArray := ⟨#[109, 111, 118, 101, 95, 97, 108, 108]⟩
/-- the rule that moves, as it lies in memory -/
def moveC (np : Nat) (M : List Int) : List AV := [vStr moveB, vi 0, vi 0, vs 2048 (List.replicate np 0), vs 2176 (List.replicate np 0), vs 3648 M, vi 0, vi 0, vi 0, .nil, .nil, .nil, .nil, vi 0]
theorem kept_app {m v : List Int} {x : Int} : ∀ k, k ≤ m.length → keptS (m ++ [x]) v k = keptS m v k
  | 0, _ => rfl
  | k + 1, h => by
    have e : (m ++ [x])[k]! = m[k]! := by rw [getElem!_pos _ k (by rw [List.length_append]; omega), getElem!_pos m k (by omega), List.getElem_append_left (by omega)]
    rw [keptS, keptS, kept_app k (by omega), e]
theorem kept_snoc {m v : List Int} {x : Int} : keptS (m ++ [x]) v (m.length + 1) = keptS m v m.length + if 0 ≤ x then v[m.length]! else 0 := by
  have e : (m ++ [x])[m.length]! = x := by rw [getElem!_pos _ m.length (by rw [List.length_append]; simp)]; simp
  rw [keptS, kept_app _ (Nat.le_refl _), e]
theorem kept_bnd {m v : List Int} (hv : ∀ j : Nat, 0 ≤ v[j]! ∧ v[j]! ≤ 3) : ∀ k : Nat, 0 ≤ keptS m v k ∧ keptS m v k ≤ 3 * k
  | 0 => ⟨Int.le_refl _, Int.le_refl _⟩
  | k + 1 => by
    have := kept_bnd (m := m) hv k
    have := hv k
    rw [keptS]
    split <;> omega
/-- a model with the rule that moves alone -/
def moveR (np : Nat) (M : List Int) : RD := bareR moveB 0 0 (List.replicate np 0) (List.replicate np 0) M
def moveM (m : MD) (np : Nat) (M : List Int) : MD := { m with rules := [moveR np M] }
def moveA (m : MD) (np : Nat) (M : List Int) : AV := .ag [vi m.kind, vss m.states, vss m.places, vss m.letters, vs 0 m.ranks, vi m.levels, vi m.age,
  .sl 0 14 [.ag [vStr moveB, vi 0, vi 0, vs 0 (List.replicate np 0), vs 0 (List.replicate np 0), vs 0 M, vi 0, vi 0, vi 0, .nil, .nil, .nil, .nil, vi 0]], vi m.start.n, .sl 0 2 (m.start.kids.map vV)]
theorem move_le (m : MD) (np : Nat) (M : List Int) : leV (moveA m np M) (vM (moveM m np M)) := by
  have e1 : Sub .nil (vs 0 []) := Sub.nil 1
  have e3 : Sub .nil (.sl 0 3 (([] : List (Int × Int × Int)).map vTake)) := Sub.nil 3
  unfold moveA vM cM moveM
  refine leV_ag ⟨leV_refl _, leV_refl _, leV_refl _, leV_refl _, leV_refl _, leV_refl _, leV_refl _, ?_, leV_refl _, leV_refl _, trivial⟩
  refine leV_slE (by simp) (fun y hy => by obtain ⟨z, _, rfl⟩ := List.mem_map.1 hy; rfl) ?_
  exact PW.cons (Sub.refl _) (PW.cons (Sub.refl _) (PW.cons (Sub.refl _) (PW.cons (Sub.refl _) (PW.cons (Sub.refl _) (PW.cons (Sub.refl _) (PW.cons (Sub.refl _) (PW.cons (Sub.refl _) (PW.cons (Sub.refl _) (PW.cons e1 (PW.cons e1 (PW.cons e3 (PW.cons e1 (PW.cons (Sub.refl _) (PW.nil _))))))))))))))
theorem names_move {ns np : Nat} (h1 : 1 ≤ ns ∧ ns ≤ 3) (h2 : 1 ≤ np ∧ np ≤ 3) : namesB (nmL qB ns ++ nmL pB np ++ [moveB]) = true := by
  have key : ∀ a ∈ [1, 2, 3], ∀ b ∈ [1, 2, 3], namesB (nmL qB a ++ nmL pB b ++ [moveB]) = true := by
    have : ([1, 2, 3].all fun a => [1, 2, 3].all fun b => namesB (nmL qB a ++ nmL pB b ++ [moveB])) = true := by kernel_rfl
    intro a ha b hb
    exact List.all_eq_true.1 (List.all_eq_true.1 this a ha) b hb
  exact key ns (by simp; omega) np (by simp; omega)
section
variable {ns np x0 : Nat} {rules : List RD} {v0 M v : List Int}
theorem move_rule (_hnp : 1 ≤ np) (hns : 1 ≤ ns) (hM : ∀ y ∈ M, -1 ≤ y ∧ y ≤ (np : Int) - 1) (hl : M.length = np) : ruleB ns np (moveR np M) = true := by
  unfold ruleB changesB movesB smallB indexB betweenB
  simp only [Bool.and_eq_true, Bool.or_eq_true, decide_eq_true_eq, List.all_eq_true, beq_iff_eq]
  have hz : ∀ y ∈ List.replicate np (0 : Int), 0 ≤ y ∧ y ≤ 16 := fun y hy => by rw [List.eq_of_mem_replicate hy]; omega
  exact ⟨⟨⟨⟨Int.le_refl _, by show (0 : Int) < ns; omega⟩, Int.le_refl _, by show (0 : Int) < ns; omega⟩, ⟨⟨List.length_replicate .., List.length_replicate ..⟩, hz⟩, hz⟩, .inr ⟨hl, hM⟩⟩
theorem move_good (h : DealtM ns np rules x0 v0) (hM : ∀ y ∈ M, -1 ≤ y ∧ y ≤ (np : Int) - 1) (hl : M.length = np) : GoodM (moveM (dealtM ns np rules (cfgC x0 v0)) np M) := by
  have g := h.good
  have l1 : (dealtM ns np rules (cfgC x0 v0)).states.length = ns := nmL_len _ _
  have l2 : (dealtM ns np rules (cfgC x0 v0)).places.length = np := nmL_len _ _
  refine ⟨rfl, g.states, g.places, by show (1 : Nat) ≤ 12; omega, rfl, rfl, rfl, rfl, ?_, fun r hr => ?_, g.start⟩
  · show namesB (nmL qB ns ++ nmL pB np ++ [] ++ [moveB]) = true
    rw [List.append_nil]
    exact names_move h.hns h.hnp
  · have e : r = moveR np M := by simpa [moveM] using hr
    subst e
    show ruleB (dealtM ns np rules (cfgC x0 v0)).states.length (dealtM ns np rules (cfgC x0 v0)).places.length _ = true ∧ _
    rw [l1, l2]
    exact ⟨move_rule h.hnp.1 h.hns.1 hM hl, rfl⟩
theorem move_c (h : DealtM ns np rules x0 v0) (hM : ∀ y ∈ M, -1 ≤ y ∧ y ≤ (np : Int) - 1) (hl : M.length = np) : RuleC ns np (moveR np M) := rule_c (move_rule h.hnp.1 h.hns.1 hM hl)
theorem move_low (h : DealtM ns np rules x0 v0) (hM : ∀ y ∈ M, -1 ≤ y ∧ y ≤ (np : Int) - 1) (hl : M.length = np) (hv : v.length = np) (hv3 : ∀ y ∈ v, 0 ≤ y ∧ y ≤ 3) (j : Nat) :
    0 ≤ (moveV (moveR np M) v)[j]! ∧ (moveV (moveR np M) v)[j]! ≤ 16 + np * 1048576 := by
  unfold moveV
  rw [hv]
  refine moveN_bnd (move_c h hM hl) (fun i hi => ?_) np (Nat.le_refl _) j
  have := hv3 _ (mem_bangI (show i < v.length by omega))
  have e : (moveR np M).need[i]! = 0 := zero_at i
  rw [e]; omega
theorem sum_low : ∀ {l : List Int}, (∀ j : Nat, 0 ≤ l[j]!) → ∀ j : Nat, l[j]! ≤ l.sum ∧ 0 ≤ l.sum
  | [], _, j => ⟨by show (([] : List Int)[j]!) ≤ 0; rw [getElem!_neg _ j (by simp)]; exact Int.le_refl _, Int.le_refl _⟩
  | a :: l, h, j => by
    have h0 := h 0
    have ht : ∀ j : Nat, (a :: l)[j + 1]! = l[j]! := fun j => by
      by_cases hj : j < l.length
      · rw [getElem!_pos _ (j + 1) (by rw [List.length_cons]; omega), getElem!_pos l j hj]; rfl
      · rw [getElem!_neg _ (j + 1) (by rw [List.length_cons]; omega), getElem!_neg l j hj]
    have ih := fun j => sum_low (l := l) (fun j => by have := h (j + 1); rw [ht] at this; exact this) j
    rw [List.sum_cons]
    have e0 : (a :: l)[0]! = a := rfl
    rw [e0] at h0
    have i0 := ih 0
    cases j with
    | zero => rw [e0]; omega
    | succ j => rw [ht]; have := ih j; omega
theorem sum_take1 {l : List Int} {k : Nat} (h : k < l.length) : (l.take (k + 1)).sum = (l.take k).sum + l[k]! := by
  rw [List.take_add_one, List.getElem?_eq_getElem h, getElem!_pos l k h, List.sum_append]
  show _ + (l[k] + 0) = _
  omega
theorem take_sum : ∀ {l : List Int}, (∀ j : Nat, 0 ≤ l[j]!) → ∀ k : Nat, 0 ≤ (l.take k).sum ∧ (l.take k).sum ≤ l.sum
  | l, h, 0 => ⟨Int.le_refl _, (sum_low h 0).2⟩
  | [], _, k + 1 => ⟨Int.le_refl _, Int.le_refl _⟩
  | a :: l, h, k + 1 => by
    have ht : ∀ j : Nat, (a :: l)[j + 1]! = l[j]! := fun j => by
      by_cases hj : j < l.length
      · rw [getElem!_pos _ (j + 1) (by rw [List.length_cons]; omega), getElem!_pos l j hj]; rfl
      · rw [getElem!_neg _ (j + 1) (by rw [List.length_cons]; omega), getElem!_neg l j hj]
    have ih := take_sum (l := l) (fun j => by have := h (j + 1); rw [ht] at this; exact this) k
    have h0 := h 0
    have e0 : (a :: l)[0]! = a := rfl
    rw [e0] at h0
    rw [List.take_succ_cons, List.sum_cons, List.sum_cons]
    omega
/-- what is behind the rule that moves -/
theorem move_sum (h : DealtM ns np rules x0 v0) (hM : ∀ y ∈ M, -1 ≤ y ∧ y ≤ (np : Int) - 1) (hl : M.length = np) (hv : v.length = np) : (moveV (moveR np M) v).sum = keptS M v np := by
  unfold moveV
  rw [hv]
  exact moves_sum (move_c h hM hl) rfl rfl hl h.hnp.1 v np (Nat.le_refl _)
theorem move_out (h : DealtM ns np rules x0 v0) (hM : ∀ y ∈ M, -1 ≤ y ∧ y ≤ (np : Int) - 1) (hl : M.length = np) (hv : v.length = np) (hv3 : ∀ y ∈ v, 0 ≤ y ∧ y ≤ 3) :
    appA 2 (moveM (dealtM ns np rules (cfgC x0 v0)) np M).rules[0]! 0 v = .tup [.ag [vi 0, .sl 2 2 (kidN 0 :: (moveV (moveR np M) v).map kidN)], vi 0] := by
  have hb := move_low h hM hl hv hv3
  have hs := move_sum h hM hl hv
  have hk := kept_bnd (m := M) (v := v) (fun j => by
    by_cases hj : j < v.length
    · exact hv3 _ (mem_bangI hj)
    · rw [getElem!_neg _ j hj]; exact ⟨Int.le_refl _, by decide⟩) np
  have hnp := h.hnp
  have e0 : (moveM (dealtM ns np rules (cfgC x0 v0)) np M).rules[0]! = moveR np M := rfl
  rw [e0]
  have e1 : enF (moveR np M) 0 v = true := by
    unfold enF
    simp only [Bool.and_eq_true, beq_iff_eq, List.all_eq_true, List.mem_range, decide_eq_true_eq]
    refine ⟨rfl, fun i hi => ?_⟩
    have hin : i < np := by have : (moveR np M).need.length = np := List.length_replicate ..; omega
    have := hv3 _ (mem_bangI (show i < v.length by omega))
    have e : (moveR np M).need[i]! = 0 := zero_at i
    rw [e]; omega
  have e2 : okV (moveV (moveR np M) v) = true := okV_ok fun j hj => by
    have h1 := (sum_low (fun j => (hb j).1) j).1
    rw [hs] at h1
    omega
  unfold appA
  rw [if_pos e1, if_pos e2]; rfl
end
set_option maxRecDepth 100000 in
set_option maxHeartbeats 4000000 in
theorem con_movesLaw (l : List Int) : Con Tryz.prog 11 [vs 0 l] [] fun r _ => r = vb true := by
  refine Con.intro Tryz.func11 rfl Tryz.ntmps11 Tryz.results11 (by kernel_rfl) (by simp) 0 (by simp) ?_
  simp only [go_sem]
  refine CallU.free con_sane17 (by simp only [go_sem]) (by simp only [go_sem]) ?_
  rintro r bx rfl
  simp only [go_sem]
  refine CallU.free (con_dFew l) (by simp only [go_sem]) (by simp only [go_sem]) ?_
  rintro r bx rfl
  by_cases hf : (l.length : Int) ≤ 400
  case neg =>
    simp only [go_sem, hf]
    refine CallU.free con_sane17 (by simp only [go_sem]) (by simp only [go_sem]) ?_
    rintro r bx rfl
    simp only [go_sem]
  simp only [go_sem, hf]
  refine CallU.news (bx0 := []) (con_dNew l) (by simp only [go_sem]) (by simp only [go_sem]) (by simp only [go_sem]) (by simp only [go_sem]) (by simp only [go_sem]) ?_
  rintro r b ⟨rfl, rfl⟩
  simp only [go_sem]
  refine CallU.boxes (i := 0) (is := []) (bx0 := [deckA l (0, 11400714819323198485)]) (con_dModel1 l (0, 11400714819323198485) (deck_dk hf)) (by simp only [go_sem]) (by simp only [go_sem]) (by simp only [go_sem]) (by simp only [go_sem]) (by simp only [go_sem]) ?_
  rintro r b ⟨ns, np, rules, x0, v0, s1, hM, hd1, rfl, rfl⟩
  have hns := hM.hns; have hnp := hM.hnp
  have l1 : (nmL qB ns).length = ns := nmL_len _ _
  have l2 : (nmL pB np).length = np := nmL_len _ _
  have m1 : (dealtM ns np rules (cfgC x0 v0)).states = nmL qB ns := rfl
  have m2 : (dealtM ns np rules (cfgC x0 v0)).places = nmL pB np := rfl
  obtain ⟨mm, hmm⟩ : ∃ mm, mm = dealtM ns np rules (cfgC x0 v0) := ⟨_, rfl⟩
  rw [← hmm] at m1 m2 ⊢
  have lp : mm.places.length = np := by rw [m2, l2]
  have hr1 : np ≤ 140737488355328 := by omega
  simp only [go_sem, lp]
  refine DrawK.news0 [(5, 2)] [14] [(31, 34), (33, 34)] 0 [] [] 6 (.one 6 .done) none (deckA l s1) mixed (by kernel_rfl) (by kernel_rfl) (by kernel_rfl) (by simp only [go_sem]) (by simp only [go_sem]) ⟨by simp only [go_sem], by simp only [go_sem]⟩ ⟨by simp only [go_sem], by simp only [go_sem]⟩ ?_
  simp only [go_sem]
  refine ⟨Nat.le_refl _, by omega, by omega, Nat.le_refl _, by omega, by omega, ?_⟩
  have hrep : List.replicate 14 AV.any = [.any, .any, .any, .any, .any, .any, .any, .any, .any, .any, .any, .any, .any, .any] := rfl
  have hz : List.replicate np (AV.sc (.int .i64 0)) = (List.replicate np (0 : Int)).map vi := by rw [List.map_replicate]; rfl
  simp only [go_sem, hrep, hz]
  obtain ⟨x, v, e, g1, g2, g3⟩ := cfV_cons (l := l) (s := s1) hns.1 np
  have ls : mm.states.length = ns := by rw [m1, l1]
  have hcf := con_dConfig l s1 mm (by rw [hmm]; exact dealt_own hns hnp) hd1 x v (by rw [ls, lp]; exact e) (by rw [ls, lp]; exact cfg_conf g1 g2 fun y hy => by have := g3 y hy; omega)
  rw [ls, lp] at hcf
  have hd2 : Dk l (cfS l s1 ns (np + 1)) := cfS_dk hd1 _
  generalize cfS l s1 ns (np + 1) = s2 at hcf hd2
  refine ⟨?_, trivial⟩
  refine CallU.hide [] [.pb 0 0, hidA mm] (i := 0) (is := []) (bx0 := [deckA l s1]) hcf (by simp only [go_sem]) ?_ (by simp only [go_sem]) (by simp only [go_sem]) (by simp only [go_sem]) (by simp only [go_sem]) (by simp only [go_sem]) ?_
  · simp only [go_sem]
    exact hid_le mm
  rintro r b ⟨rfl, rfl⟩
  have q2 : (0 : Int) < (v.length : Int) + 1 := by omega
  simp only [go_sem, q2]
  have hm0 : ∀ (T : List AV), (AV.ag [.sc (.int .i64 x), .sl 0 2 []] :: T).modify 0 (updElem 0 [.sc (.int .i64 0)]) = AV.ag [.sc (.int .i64 0), .sl 0 2 []] :: T := fun _ => rfl
  refine LoopK.intro (fun p : List Int × DS => ⟨108, [(3, .pb 0 0), (4, .pb 1 0), (5, vi np), (6, .pb 2 0), (7, vi (keptS p.1 v p.1.length)), (8, .pb 3 0), (9, vi p.1.length)], [deckA l p.2, cM mm, moveC np p.1, [vi 0, .sl 2434 2 (kidZ 0 :: v.map kidZ)]]⟩)
    (fun p => np - p.1.length) (fun p => p.1.length ≤ np ∧ Dk l p.2 ∧ ∀ y ∈ p.1, -1 ≤ y ∧ y ≤ np - 1) ([], s2) ⟨by simp, hd2, fun y hy => by cases hy⟩ ?_ ?_
  · simp only [go_sem, hm0, cM, vss, moveC, keptS, List.length_nil, List.map_nil]
    exact leV_refl _
  rintro ⟨M, s3⟩ ⟨h1, h2, h3⟩
  simp only at h1 h2 h3
  by_cases hlt : M.length < np
  · have hw : IntKind.i64.wrap ((M.length : Int) + 1) = (M.length : Int) + 1 := wrap_in (by omega) (by omega)
    have hw2 : IntKind.i64.wrap ((np : Int) + 1) = (np : Int) + 1 := wrap_in (by omega) (by omega)
    have hx := nextV_lt (l := l) (s := s3) (n := (np : Int) + 1) (by omega)
    obtain ⟨y, hy⟩ : ∃ y, y = nextV l s3 ((np : Int) + 1) - 1 := ⟨_, rfl⟩
    have hw3 : IntKind.i64.wrap (nextV l s3 ((np : Int) + 1) - 1) = y := by rw [wrap_in (by omega) (by omega), hy]
    have hw4 : IntKind.i64.wrap (1 + (M.length : Int)) = (M.length : Int) + 1 := by rw [wrap_in (by omega) (by omega)]; omega
    have hvl : M.length < v.length := by omega
    have hgv := getZ hvl
    have hv3 := g3 _ (mem_bangI hvl)
    have hr : roomFor (M.length + 1) 8 := by simp only [roomFor]; omega
    have hkb := kept_bnd (m := M) (v := v) (fun j => by
      by_cases hj : j < v.length
      · exact g3 _ (mem_bangI hj)
      · rw [getElem!_neg _ j hj]; exact ⟨Int.le_refl _, by decide⟩) M.length
    have hsn := kept_snoc (x := y) (m := M) (v := v)
    simp only [go_sem, hlt, hw2, moveC, cM, vss]
    refine CallU.boxes (i := 0) (is := []) (bx0 := [deckA l s3]) (con_dNext l s3 ((np : Int) + 1) h2) (by simp only [go_sem]) (by simp only [go_sem]) (by simp only [go_sem]) (by simp only [go_sem]) (by simp only [go_sem]) ?_
    rintro r b ⟨rfl, rfl⟩
    generalize nextV l s3 ((np : Int) + 1) = nv at hx hy hw3
    have hy2 : -1 ≤ y ∧ y ≤ (np : Int) - 1 := by omega
    simp only [go_sem, hw3, hr]
    have hd4 : Dk l (nextS l s3 ((np : Int) + 1)) := nextS_dk h2
    have hinv : ∀ z ∈ M ++ [y], -1 ≤ z ∧ z ≤ (np : Int) - 1 := fun z hz => by
      rcases List.mem_append.1 hz with hz | hz
      · exact h3 z hz
      · rw [List.mem_singleton] at hz; rw [hz]; exact hy2
    have hlen : (M ++ [y]).length = M.length + 1 := by simp
    by_cases hy0 : 0 ≤ y
    · rw [if_pos hy0] at hsn
      have ht : ((M.length : Int) + 1).toNat = M.length + 1 := by omega
      have hnn : (0 : Int) ≤ (M.length : Int) + 1 := by omega
      have q3 : (M.length : Int) + 1 < (v.length : Int) + 1 := by omega
      have hgv' : (AV.ag [.sc (.int .i64 0), .sl 0 2 []] :: v.map kidZ)[M.length + 1]? = some (.ag [.sc (.int .i64 v[M.length]!), .sl 0 2 []]) := hgv
      have hw5 : IntKind.i64.wrap (keptS M v M.length + v[M.length]!) = keptS (M ++ [y]) v (M.length + 1) := by rw [hsn]; exact wrap_in (by omega) (by omega)
      simp only [go_sem, hy0, hw, hw4, ht, hnn, q3, hgv', hw5]
      refine roundK.intro (M ++ [y], nextS l s3 ((np : Int) + 1)) ⟨by rw [hlen]; omega, hd4, hinv⟩ (by show np - (M ++ [y]).length < np - M.length; rw [hlen]; omega) ?_
      simp only [go_sem, hlen, List.map_append, List.map_cons, List.map_nil]
    · rw [if_neg hy0, Int.add_zero] at hsn
      simp only [go_sem, hy0, hw]
      refine roundK.intro (M ++ [y], nextS l s3 ((np : Int) + 1)) ⟨by rw [hlen]; omega, hd4, hinv⟩ (by show np - (M ++ [y]).length < np - M.length; rw [hlen]; omega) ?_
      simp only [go_sem, hlen, hsn, List.map_append, List.map_cons, List.map_nil]
  · have eM : M.length = np := by omega
    have hlt' : ¬ ((M.length : Int) < (np : Int)) := by omega
    have hG := move_good hM h3 eM
    have hGc : GoodC (moveM (dealtM ns np rules (cfgC x0 v0)) np M) 0 v := ⟨by show 0 < (nmL qB ns).length; omega, by show v.length = (nmL pB np).length; omega, fun y hy => by have := g3 y hy; omega⟩
    have hap := con_capply (moveM (dealtM ns np rules (cfgC x0 v0)) np M) 0 0 v hG (by show 0 < 1; omega) hGc
    have hout := move_out (v := v) hM h3 eM g2 g3
    rw [hout] at hap
    rw [← hmm] at hap
    simp only [go_sem, hlt', moveC, cM, vss]
    refine CallU.freeze (hap.leA (args' := [moveA mm np M, vi 0, cfgO 0 0 v]) ⟨move_le _ _ _, leV_refl _, by rw [cfgZ_eq]; exact leV_refl _, trivial⟩) (by simp only [go_sem]) (by simp only [go_sem, moveA, vss]) ?_
    rintro r bx rfl
    have hsum := move_sum (v := v) hM h3 eM g2
    have hlow := move_low (v := v) hM h3 eM g2 g3
    have hol : (moveV (moveR np M) v).length = np := by
      unfold moveV
      rw [moveN_len]; exact List.length_replicate ..
    generalize moveV (moveR np M) v = out at hsum hlow hol
    have hkb := kept_bnd (m := M) (v := v) (fun j => by
      by_cases hj : j < v.length
      · exact g3 _ (mem_bangI hj)
      · rw [getElem!_neg _ j hj]; exact ⟨Int.le_refl _, by decide⟩) np
    rw [← hsum] at hkb
    rw [eM, ← hsum]
    have hpart : ∀ k, 0 ≤ (out.take k).sum ∧ (out.take k).sum ≤ out.sum := fun k => take_sum (fun j => (hlow j).1) k
    simp only [go_sem]
    refine LoopK.intro (fun k : Nat => ⟨108, [(5, vi np), (7, vi out.sum), (11, .pb 4 0), (12, vi 0), (13, vi (out.take k).sum), (14, vi ((k + 1 : Nat) : Int))], [List.replicate 3 .any, List.replicate 10 .any, List.replicate 14 .any, List.replicate 2 .any, [vi 0, .sl 4866 2 (kidN 0 :: out.map kidN)]]⟩)
      (fun k => np - k) (fun k => k ≤ np) 0 (by omega) ?_ ?_
    · simp only [go_sem, List.take_zero, List.sum_nil]
      exact ⟨leC_any _ 3 rfl, leC_any _ 10 rfl, leC_any _ 14 rfl, leC_any _ 2 rfl⟩
    rintro k hk
    by_cases hkn : k < np
    · have ho : k < out.length := by omega
      have hgo : (AV.ag [.sc (.int .i64 0), .nil] :: out.map kidN)[k + 1]? = some (.ag [.sc (.int .i64 out[k]!), .nil]) := by
        rw [List.getElem?_cons_succ, List.getElem?_map, List.getElem?_eq_getElem ho, getElem!_pos out k ho]; rfl
      have ht : ((k : Int) + 1).toNat = k + 1 := by omega
      have hnn : (0 : Int) ≤ (k : Int) + 1 := by omega
      have q3 : (k : Int) + 1 < (out.length : Int) + 1 := by omega
      have hw : IntKind.i64.wrap ((k : Int) + 1 + 1) = (k : Int) + 1 + 1 := wrap_in (by omega) (by omega)
      have es := sum_take1 ho
      have hp := hpart (k + 1)
      have hws : IntKind.i64.wrap ((out.take k).sum + out[k]!) = (out.take (k + 1)).sum := by rw [← es]; exact wrap_in (by omega) (by omega)
      simp only [go_sem, ht, hnn, q3, hgo, hw, hws]
      refine roundK.intro (k + 1) (by omega) (by omega) ?_
      simp only [go_sem]
      exact ⟨leC_self _, leC_self _, leC_self _, leC_self _⟩
    · have ek : k = np := by omega
      subst ek
      have q3 : ¬ ((k : Int) + 1 < (out.length : Int) + 1) := by omega
      have et : out.take k = out := List.take_of_length_le (by omega)
      have q4 : ((out.length : Int) + 1 == IntKind.i64.wrap (1 + (k : Int))) = true := by rw [wrap_in (by omega) (by omega)]; simp; omega
      simp only [go_sem, q3, et]
      rw [q4]
end Go.AM

/-! ## Am3 -/
namespace Go.AM
open Go.ChangeShapes Go.WideShapes Go.ChangeAt Go.RowKit

section
variable {H : Type} {enc : TypeId × Value → H} {P : Program} {w : World} {base : Nat} {spare : Nat → Bool} {held : Bool}

/-- what these cells stand for -/
def Reads (w : World) (xs : List AV) (cs : List Value) : Prop := PW (FRel (Stable (oldG w)) w) xs cs ∧ One cs
theorem Reads.cons {x : AV} {xs : List AV} {v : Value} {cs : List Value} (h : Reads w [x] [v]) (k : Reads w xs cs) : Reads w (x :: xs) (v :: cs) :=
  ⟨.cons (h.1.2 0 x v rfl rfl) k.1, fun u hu => by
    rcases List.mem_cons.1 hu with rfl | hu
    · exact h.2 u (by simp)
    · exact k.2 u hu⟩
theorem Reads.one {x : AV} {v : Value} (h : Reads w [x] [v]) : FRel (Stable (oldG w)) w x v := h.1.2 0 x v rfl rfl
theorem Reads.of {x : AV} {v : Value} (h : FRel (Stable (oldG w)) w x v) (k : v.oneCell' = true) : Reads w [x] [v] := ⟨.cons h (.nil _), fun u hu => by simp at hu; subst hu; exact k⟩

def elemsOf : DataW H → List (DataW H)
  | .slice l _ => l
  | _ => []
def partsOf : DataW H → List (DataW H)
  | .agg l => l
  | _ => []

theorem flatten_at {α : Type} {es : Nat} : ∀ {L : List (List α)} {j : Nat} {u : α}, (∀ l ∈ L, l.length = es) → L.flatten[j]? = some u → ∃ i o l, j = i * es + o ∧ L[i]? = some l ∧ l[o]? = some u
  | [], j, u, _, h => by simp at h
  | l :: L, j, u, hl, h => by
    rw [List.flatten_cons] at h
    by_cases hj : j < l.length
    · rw [List.getElem?_append_left hj] at h; exact ⟨0, j, l, by omega, rfl, h⟩
    · rw [List.getElem?_append_right (by omega)] at h
      obtain ⟨i, o, l', h1, h2, h3⟩ := flatten_at (fun l' hl' => hl l' (by simp [hl'])) h
      have := hl l (by simp)
      exact ⟨i + 1, o, l', by rw [Nat.succ_mul]; omega, by simpa using h2, h3⟩

/-- a slice, its elements read by g -/
theorem slice_reads {t e : TypeId} {g : DataW H → AV} {es fuel : Nat} {cs : List Value} {d : DataW H} {ps : List MemPlace} (ht : P.underlying t = some (.slice e)) (hc : P.cellsOf e = es) (hes : 0 < es)
    (h : DataW.trod enc P w base spare held fuel t cs = some (d, ps))
    (hel : ∀ x ∈ elemsOf d, ∀ n cs' ps', DataW.trod enc P w base spare held n e cs' = some (x, ps') → Reads w (g x).cells cs') :
    ∃ v, cs = [v] ∧ Reads w [.sl 0 es ((elemsOf d).map g)] [v] ∧ (elemsOf d).length ≤ 9223372036854775807 ∧ ∀ x ∈ elemsOf d, ∃ n cs' ps', DataW.trod enc P w base spare held n e cs' = some (x, ps') := by
  rcases Go.Deep.open_slice ht h with ⟨rfl, h2⟩ | ⟨a, len, cap, m, n, D, Pl, rfl, _, hl, hcm, hm, h2, hx⟩
  · simp only [Prod.mk.injEq] at h2
    obtain ⟨rfl, _⟩ := h2
    exact ⟨_, rfl, .of (.slNil _ _ _ _ (by omega) (by simp) (by simp)) rfl, by simp [elemsOf], fun x hx => by simp [elemsOf] at hx⟩
  · simp only [Prod.mk.injEq] at h2
    obtain ⟨rfl, _⟩ := h2
    refine ⟨_, rfl, ?_, by simp only [elemsOf, List.length_map, List.length_range]; unfold maxLen at hcm; omega, fun x hx' => by
      simp only [elemsOf] at hx'
      obtain ⟨i, hi, rfl⟩ := List.mem_map.1 hx'
      obtain ⟨cs', _, h2⟩ := hx i (by have := List.mem_range.1 hi; rw [hm]; split <;> omega)
      exact ⟨n, cs', _, h2⟩⟩
    refine .of ?_ rfl
    have hlm : len ≤ m := by rw [hm]; split <;> omega
    rcases Nat.eq_zero_or_pos len with h0 | hp
    · subst h0
      exact .slNil _ _ _ _ (by omega) (by simp) (by simp)
    obtain ⟨CS, hCS⟩ := Go.Deep.choose_lt (α := List Value) (p := fun i cs' => w.cells? base (a.add (i * P.cellsOf e)) (P.cellsOf e) = some cs' ∧ DataW.trod enc P w base spare held n e cs' = some (D i, Pl i)) (n := len) (fun i hi => hx i (by omega))
    rw [hc] at hCS
    have hcell : ∀ i, i < len → (CS i).length = es ∧ ∀ o, o < es → w.cell? ((a.add (i * es)).add o) = (CS i)[o]? := fun i hi =>
      let ⟨_, h1, h2⟩ := World.cells?_some (hCS i hi).1
      ⟨h1, h2⟩
    have hrd : ∀ i, i < len → Reads w (g (D i)).cells (CS i) := fun i hi => hel (D i) (by simp only [elemsOf]; exact List.mem_map.2 ⟨i, List.mem_range.2 hi, rfl⟩) n (CS i) (Pl i) (hCS i hi).2
    obtain ⟨b, off, spot⟩ := a
    have h00 : ∃ u, w.cell? (((Addr.mk b off spot).add (0 * es)).add 0) = some u := by
      rw [(hcell 0 hp).2 0 hes]
      exact ⟨_, List.getElem?_eq_getElem (by rw [(hcell 0 hp).1]; exact hes)⟩
    obtain ⟨u0, hu0⟩ := h00
    have hspot : spot = none := by simpa [Addr.add] using World.cell?_spot hu0
    subst hspot
    have hb : b < w.heap.size := by simpa [Addr.add] using cell_old hu0
    simp only [elemsOf, List.map_map]
    have hlen : ((List.range len).map (g ∘ D)).length = len := by simp
    have hL : ∀ l ∈ (List.range len).map CS, l.length = es := fun l hl => by
      obtain ⟨i, hi, rfl⟩ := List.mem_map.1 hl
      exact (hcell i (List.mem_range.1 hi)).1
    have hpw : PW (FRel (Stable (oldG w)) w) (flat ((List.range len).map (g ∘ D))) ((List.range len).map CS).flatten := by
      have := PW.flatMap (R := FRel (Stable (oldG w)) w) (f := AV.cells) (g := fun l : List Value => l) (xs := (List.range len).map (g ∘ D)) (ys := (List.range len).map CS) ⟨by simp, fun j x y hx hy => by
        have hjl : j < len := by have := (List.getElem?_eq_some_iff.1 hx).1; simpa using this
        simp only [List.getElem?_map, List.getElem?_range hjl, Option.map_some, Option.some.injEq] at hx hy
        subst hx; subst hy
        exact (hrd j hjl).1⟩
      have e : ((List.range len).map CS).flatMap (fun l => l) = ((List.range len).map CS).flatten := by rw [List.flatMap_def]; congr 1; exact List.map_id' _
      rw [e] at this
      exact this
    have := FRel.sl (S := Stable (oldG w)) (w := w) 0 es ((List.range len).map (g ∘ D)) b off cap ((List.range len).map CS).flatten (by omega) (oldG_lt hb) (by simp) (by rw [hlen]; exact hl)
      (fun x hx => by
        obtain ⟨i, hi, rfl⟩ := List.mem_map.1 hx
        have hi := List.mem_range.1 hi
        rw [← (hcell i hi).1]; exact (hrd i hi).1.1)
      hpw.1
      (fun u hu => by
        obtain ⟨l, hl, hul⟩ := List.mem_flatten.1 hu
        obtain ⟨i, hi, rfl⟩ := List.mem_map.1 hl
        exact (hrd i (List.mem_range.1 hi)).2 u hul)
      (fun j u hj => by
        obtain ⟨i, o, l, rfl, h1, h2⟩ := flatten_at hL hj
        have hil : i < len := by have := (List.getElem?_eq_some_iff.1 h1).1; simpa using this
        simp only [List.getElem?_map, List.getElem?_range hil, Option.map_some, Option.some.injEq] at h1
        subst h1
        have ho : o < es := by have := (List.getElem?_eq_some_iff.1 h2).1; rw [(hcell i hil).1] at this; exact this
        have := (hcell i hil).2 o ho
        rw [h2] at this
        rw [add_plain, add_plain, Nat.add_assoc] at this
        exact this)
      (fun j x u hx hu => hpw.2 j x u hx hu)
    rw [hlen] at this
    exact this

theorem int_reads {e : TypeId} {fuel : Nat} {cs : List Value} {d : DataW H} {ps : List MemPlace} (he : P.underlying e = some (.int .i64)) (h : DataW.trod enc P w base spare held fuel e cs = some (d, ps)) :
    ∃ v, cs = [v] ∧ Reads w [.sc (.int .i64 (numI d))] [v] := by
  obtain ⟨x, e0, e1, wx⟩ := DataW.trod_int he h
  subst e0
  exact ⟨_, rfl, .of (stands_i64 he fuel _ d ps h).1 rfl⟩
theorem bool_reads {e : TypeId} {fuel : Nat} {cs : List Value} {d : DataW H} {ps : List MemPlace} (he : P.underlying e = some .bool) (h : DataW.trod enc P w base spare held fuel e cs = some (d, ps)) :
    ∃ v b, cs = [v] ∧ d = .lit (.bool b) ∧ Reads w [.sc (.bool b)] [v] := by
  obtain ⟨x, e0, e1⟩ := DataW.trod_bool he h
  subst e0
  simp only [Prod.mk.injEq] at e1
  obtain ⟨rfl, _⟩ := e1
  exact ⟨_, x, rfl, rfl, .of (.sc _) rfl⟩
/-- a struct of two fields of one cell each -/
theorem struct2_reads {e : TypeId} {f0 f1 : Field} {fuel : Nat} {cs : List Value} {d : DataW H} {ps : List MemPlace} (he : P.underlying e = some (.struct #[f0, f1])) (ce : P.cellsOf e = 2)
    (o0 : f0.offset = 0) (o1 : f1.offset = 1) (c0 : P.cellsOf f0.type = 1) (c1 : P.cellsOf f1.type = 1) (h : DataW.trod enc P w base spare held fuel e cs = some (d, ps)) :
    ∃ v0 v1 d0 d1 n p0 p1, cs = [v0, v1] ∧ d = .agg [d0, d1] ∧ DataW.trod enc P w base spare held n f0.type [v0] = some (d0, p0) ∧ DataW.trod enc P w base spare held n f1.type [v1] = some (d1, p1) := by
  obtain ⟨y0, y1, n, hxy, hl, g0, g1⟩ := trod_struct2 he h
  rw [ce] at hl
  match cs, hl with
  | [v0, v1], _ =>
    simp [o0, o1, c0, c1] at g0 g1
    simp only [Prod.mk.injEq] at hxy
    exact ⟨v0, v1, y0.1, y1.1, n, y0.2, y1.2, rfl, hxy.1, g0, g1⟩
theorem struct1_reads {e : TypeId} {f0 : Field} {fuel : Nat} {cs : List Value} {d : DataW H} {ps : List MemPlace} (he : P.underlying e = some (.struct #[f0])) (ce : P.cellsOf e = 1)
    (o0 : f0.offset = 0) (c0 : P.cellsOf f0.type = 1) (h : DataW.trod enc P w base spare held fuel e cs = some (d, ps)) :
    ∃ v0 d0 n p0, cs = [v0] ∧ d = .agg [d0] ∧ DataW.trod enc P w base spare held n f0.type [v0] = some (d0, p0) := by
  obtain ⟨y0, n, hxy, hl, g0⟩ := trod_struct1 he h
  rw [ce] at hl
  match cs, hl with
  | [v0], _ =>
    simp [o0, c0] at g0
    simp only [Prod.mk.injEq] at hxy
    exact ⟨v0, y0.1, n, y0.2, rfl, hxy.1, g0⟩
/-- an argument that is a struct -/
theorem agg_arg {t : TypeId} {fs : Array Field} {v : Value} {xs : List AV} {r : Reach} {b0 : Nat} (ht : P.underlying t = some (.struct fs)) (hv : Value.okWide P w r b0 t v) (h : Reads w xs v.cells.toList) : VRel (oldG w) w (.ag xs) v := by
  obtain ⟨cs, rfl, _⟩ := okWide_struct ht hv
  have h : Reads w xs cs.toList := h
  exact .froz (.ag xs cs h.1.1 h.2 h.1.2)

theorem elems_size {d x : DataW H} (h : x ∈ elemsOf d) : SizeOf.sizeOf x < SizeOf.sizeOf d := by
  cases d <;> simp only [elemsOf, List.not_mem_nil] at h
  have := List.sizeOf_lt_of_mem h
  rw [DataW.slice.sizeOf_spec]; omega
/-! ### how long slices are -/
theorem weights_slice {t e : TypeId} {d : DataW H} (ht : P.underlying t = some (.slice e)) (h : ∀ n ∈ d.weights P t, n ≤ reachBytes) : (elemsOf d).length * P.bytesOf e ≤ reachBytes ∧ ∀ x ∈ elemsOf d, ∀ n ∈ x.weights P e, n ≤ reachBytes := by
  have key : ∀ (l : List (DataW H)) (x : DataW H), x ∈ l → ∀ n ∈ x.weights P e, n ∈ DataW.weightsAll P e l := by
    intro l
    induction l with
    | nil => intro x hx; simp at hx
    | cons a l ih =>
      intro x hx n hn
      simp only [DataW.weightsAll, List.mem_append]
      rcases List.mem_cons.1 hx with rfl | hx
      · exact .inl hn
      · exact .inr (ih x hx n hn)
  cases d <;> simp only [elemsOf, List.length_nil, Nat.zero_mul, List.not_mem_nil] <;> try exact ⟨Nat.zero_le _, fun x hx => by cases hx⟩
  rename_i l sp
  refine ⟨?_, fun x hx n hn => ?_⟩
  · have := h ((l.length + sp.length) * P.bytesOf e) (by simp [DataW.weights, ht])
    exact Nat.le_trans (Nat.mul_le_mul_right _ (Nat.le_add_right _ _)) this
  · refine h n ?_
    simp only [DataW.weights, ht, List.mem_cons, List.mem_append]
    exact .inr (.inl (key l x hx n hn))
end
end Go.AM

/-! ## CmB0 -/
namespace Go.Proofs.YtpmodjodfimejaaGreat
open Go.ChangeShapes Go.WideShapes Go.ChangeAt Go.RowKit Go.AM

theorem own : ownKnob Tryz.prog.godebug = none := by kernel_rfl
theorem laidOut : laidOutB Tryz.prog = true := by kernel_rfl
theorem read22 : Tryz.prog.readableRec 22 = true ∧ 22 < Tryz.prog.types.size := ⟨by kernel_rfl, of_decide_eq_true (by kernel_rfl)⟩
theorem reads22 (n : Nat) : ∀ t ∈ List.replicate n 22, Tryz.prog.readableRec t = true ∧ t < Tryz.prog.types.size := fun t ht => by rw [List.eq_of_mem_replicate ht]; exact read22

section
variable {H : Type} {enc : TypeId × Value → H} {P : Program} {w : World} {base : Nat} {spare : Nat → Bool} {held : Bool}
/-- a byte -/
def numU (d : DataW H) : Int := IntKind.u8.wrap (numI d)
theorem numU_range (d : DataW H) : 0 ≤ numU d ∧ numU d < 256 := by unfold numU; rw [IntKind.wrap_u8]; omega
theorem stands_u8 {e : TypeId} (he : P.underlying e = some (.int .u8)) : Stands enc P w base spare held e fun d => vu (numU d) := by
  intro n v d ps h
  obtain ⟨x, e0, e1, wx⟩ := DataW.trod_int he h
  simp only [List.cons.injEq, and_true] at e0
  simp only [Prod.mk.injEq] at e1
  obtain ⟨rfl, _⟩ := e1
  subst e0
  have e2 : numU (.lit (.int .u8 x) : DataW H) = x := by
    have : IntKind.u8.wrap x = x := by
      have h1 : 0 ≤ x ∧ x ≤ 255 := by simpa [Lit.wf, IntKind.min, IntKind.max, IntKind.signed, IntKind.bits] using wx
      rw [IntKind.wrap_u8]; omega
    exact this
  simp only [e2, vu]
  exact ⟨.sc _, rfl, rfl⟩
theorem row_len {α : Type} {t e : TypeId} {f : DataW H → α} {v : Value} {d : DataW H} {ps : List MemPlace} (ht : P.underlying t = some (.slice e)) (hc : P.cellsOf e = 1) (h1 : v.cells.toList = [v]) (h : DataW.Trod enc P w base spare held t v d ps) : (rowOf f d).length ≤ 9223372036854775807 := by
  obtain ⟨n, h⟩ := h
  rw [h1] at h
  rcases Go.Deep.open_slice1 ht hc h with ⟨_, h2⟩ | ⟨a, len, cap, m, n', V, D, Pl, _, _, hl, hm, _, h2, _⟩
  · simp only [Prod.mk.injEq] at h2
    obtain ⟨rfl, _⟩ := h2
    simp [rowOf]
  · simp only [Prod.mk.injEq] at h2
    obtain ⟨rfl, _⟩ := h2
    simp only [rowOf, List.length_map, List.length_range]
    unfold maxLen at hm; omega
/-- a number of 16 bits -/
def numW (d : DataW H) : Int := IntKind.u16.wrap (numI d)
theorem numW_range (d : DataW H) : 0 ≤ numW d ∧ numW d < 65536 := by unfold numW; rw [IntKind.wrap_u16]; omega
theorem stands_u16 {e : TypeId} (he : P.underlying e = some (.int .u16)) : Stands enc P w base spare held e fun d => .sc (.int .u16 (numW d)) := by
  intro n v d ps h
  obtain ⟨x, e0, e1, wx⟩ := DataW.trod_int he h
  simp only [List.cons.injEq, and_true] at e0
  simp only [Prod.mk.injEq] at e1
  obtain ⟨rfl, _⟩ := e1
  subst e0
  have e2 : numW (.lit (.int .u16 x) : DataW H) = x := by
    have : IntKind.u16.wrap x = x := by
      have h1 : 0 ≤ x ∧ x ≤ 65535 := by simpa [Lit.wf, IntKind.min, IntKind.max, IntKind.signed, IntKind.bits] using wx
      rw [IntKind.wrap_u16]; omega
    exact this
  simp only [e2]
  exact ⟨.sc _, rfl, rfl⟩
theorem rowU_range (d : DataW H) : ∀ x ∈ rowOf numU d, 0 ≤ x ∧ x < 256 := fun x hx => by
  cases d <;> simp only [rowOf, List.not_mem_nil] at hx
  obtain ⟨y, _, rfl⟩ := List.mem_map.1 hx
  exact numU_range y
end
end Go.Proofs.YtpmodjodfimejaaGreat
