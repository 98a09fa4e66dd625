/-
  Walks: whether an atom holds, and whether it is closed.
  Walks: Holds, Closed, Excludes.
  Walks: slices.Repeat and slices.Clone of numbers.
  Walks: one rule, and one round of all rules, of the search for the strongest atom.
  Walks: the strongest atom.
  Walks: the sanity check of chapter 32.
  Walks: counter models of the dice.
  Counter models of the dice are right; the strongest atom as a plain law.
  The strongest atom at a model of the dice: a plain law.
  Walks: InvariantStrongest.
  Closed facts of rows, one by one.
  Closed facts of rows, together.
-/
import Derived.Test.YtlldkikmjeeamaaGreatg8
import Derived.Test.YtlldkikmjeeamaaGreatg7
/-! ## CmS -/
namespace Go.AM
open Go Go.Proofs Go.RowKit

theorem mul_le6 {n : Nat} (h : n ≤ 6) : 4194304 * (n : Int) ≤ 25165824 := by omega
set_option maxRecDepth 100000 in
theorem con_effect (c : List Int) (r : RD) (h1 : c.length ≤ r.give.length) (h2 : c.length ≤ r.need.length) (h6 : c.length ≤ 6) (hc : SmallI 4 c) (hg : SmallI 1048576 r.give) (hn : SmallI 1048576 r.need) : Con Tryz.prog 155 [vs 0 c, vRule r] [] fun x _ => x = vi (effectF c r) := by
  refine Con.intro Tryz.func155 rfl Tryz.ntmps155 Tryz.results155 (by kernel_rfl) (by simp) 1 (by simp) ?_
  have b1 := sum_small hc hg
  have b2 := sum_small hc hn
  have b3 := mul_le6 h6
  have hw : IntKind.i64.wrap (sumF c r.give - sumF c r.need) = effectF c r := by unfold effectF; exact wrap_in (by omega) (by omega)
  simp only [go_sem]
  refine DrawK.walk 10 mixed (by kernel_rfl) ?_
  simp only [go_sem]
  refine CallY.mk (con_sum c r.give h1 (by omega) hc hg) (by simp only [go_sem]) (by simp only [go_sem]) (.inl (by simp only [go_sem])) ?_
  simp only [go_sem]
  refine CallY.mk (con_sum c r.need h2 (by omega) hc hn) (by simp only [go_sem]) (by simp only [go_sem]) (.inl (by simp only [go_sem])) ?_
  simp only [go_sem, hw]
/-- an atom holds for a state and numbers -/
def holdsF (a : AtomD) (s : Nat) (v : List Int) : Bool := followsF a (sumF a.coefs v) s
/-- a configuration -/
def cfgC (s : Nat) (v : List Int) : CV := .mk 0 (.mk s [] :: v.map fun n => .mk n [])
theorem cfg_nums (v : List Int) : (v.map fun n => CV.mk n []).map CV.n = v := by rw [List.map_map]; exact List.map_id v
set_option maxRecDepth 100000 in
theorem con_holds (a : AtomD) (s : Nat) (v : List Int) (h1 : a.coefs.length ≤ v.length) (h6 : v.length ≤ 1000000) (hc : SmallI 4 a.coefs) (hv : SmallI 1048576 v) (hs : s < a.values.length) (hm : ModOk a.mod) : Con Tryz.prog 95 [vAtom a, vV (cfgC s v)] [] fun x _ => x = vb (holdsF a s v) := by
  have e0 := vV_eq (cfgC s v)
  rw [e0]
  refine Con.intro Tryz.func95 rfl Tryz.ntmps95 Tryz.results95 (by kernel_rfl) (by simp) 2 (by simp) ?_
  have hmo := hm
  unfold ModOk at hmo
  have hk : (cfgC s v).kids = .mk s [] :: v.map fun n => .mk n [] := rfl
  have hg : ((cfgC s v).kids.map vV)[0]? = some (.ag [.sc (.int .i64 s), .sl 0 2 []]) := getvV (l := (cfgC s v).kids) (by rw [hk]; simp)
  have hl : 0 < (cfgC s v).kids.length := by rw [hk]; simp
  have hn := con_numbers (cfgC s v).n (.mk s []) (v.map fun n => .mk n []) (by simpa using h6)
  rw [cfg_nums, ← hk] at hn
  simp only [go_sem]
  refine DrawK.walk 13 mixed (by kernel_rfl) ?_
  simp only [go_sem]
  refine CallY.mk hn (by simp only [go_sem]) (by simp only [go_sem]) (.inl (by simp only [go_sem])) ?_
  simp only [go_sem]
  refine CallY.mk (con_sum a.coefs v h1 (by omega) hc hv) (by simp only [go_sem]) (by simp only [go_sem]) (.inr (by simp only [go_sem])) ?_
  simp only [go_sem, hl, hg]
  refine CallY.mk (con_follows a (sumF a.coefs v) s hs (by omega) (by omega)) (by simp only [go_sem]) (by simp only [go_sem]) (.inl (by simp only [go_sem])) ?_
  simp only [go_sem]
  rfl
/-- rules whose lists have their lengths and small numbers -/
structure FineR (ns np : Nat) (r : RD) : Prop where
  right : RightR ns np r
  need : SmallI 1048576 r.need
  give : SmallI 1048576 r.give
theorem rule_fine {ns np : Nat} {r : RD} (h : ruleB ns np r = true) : FineR ns np r := by
  unfold ruleB changesB indexB smallB betweenB at h
  simp only [Bool.and_eq_true, decide_eq_true_eq, List.all_eq_true] at h
  obtain ⟨⟨⟨⟨h1, h2⟩, ⟨h3, h4⟩⟩, ⟨⟨⟨h5, h6⟩, h7⟩, h8⟩⟩, _⟩ := h
  refine ⟨⟨by omega, by omega, by omega, by omega, h5, h6⟩, fun x hx => ?_, fun x hx => ?_⟩
  · have := h7 x hx; omega
  · have := h8 x hx; omega
theorem effect_small {np : Nat} {c : List Int} {r : RD} {ns : Nat} (hr : FineR ns np r) (hl : c.length ≤ 6) (hc : SmallI 4 c) : -50331648 ≤ effectF c r ∧ effectF c r ≤ 50331648 := by
  have b1 := sum_small hc hr.give
  have b2 := sum_small hc hr.need
  have b3 := mul_le6 hl
  unfold effectF
  omega
/-- the error of a valid atom -/
def closedF (rules : List RD) (s0 : Nat) (v0 : List Int) (a : AtomD) : Int := if holdsF a s0 v0 then (if rules.all (keepsF a) then 0 else 41) else 42
theorem closed_bad {rules : List RD} {s0 : Nat} {v0 : List Int} {a : AtomD} {i : Nat} (h : i < rules.length) (h0 : holdsF a s0 v0 = true) (hb : keepsF a rules[i]! = false) : closedF rules s0 v0 a = 41 := by
  unfold closedF
  have : rules.all (keepsF a) = false := by rw [List.all_eq_false]; exact ⟨rules[i]!, mem_bangI h, by rw [hb]; simp⟩
  rw [h0, this]; rfl
theorem closed_ok {rules : List RD} {s0 : Nat} {v0 : List Int} {a : AtomD} (h0 : holdsF a s0 v0 = true) (h : ∀ i, i < rules.length → keepsF a rules[i]! = true) : closedF rules s0 v0 a = 0 := by
  unfold closedF
  have : rules.all (keepsF a) = true := by
    rw [List.all_eq_true]
    intro r hr
    obtain ⟨j, hj⟩ := List.getElem?_of_mem hr
    have hjl := (List.getElem?_eq_some_iff.1 hj).1
    have := h j hjl
    rw [getElem!_pos rules j hjl, (List.getElem?_eq_some_iff.1 hj).2] at this; exact this
  rw [h0, this]; rfl
set_option maxRecDepth 100000 in
set_option maxHeartbeats 2000000 in
theorem con_closed (m : MD) (a : AtomD) (s0 : Nat) (v0 : List Int) (hst : m.start = cfgC s0 v0) (hv0 : v0.length = m.places.length) (hb0 : SmallI 1048576 v0) (hs0 : s0 < m.states.length)
    (hr : ∀ r ∈ m.rules, FineR m.states.length m.places.length r) (hp : m.places.length ≤ 6) (hrl : m.rules.length ≤ 1000000) (ha : FormA m a) (hB : InB 1099511627776 a.values) :
    Con Tryz.prog 92 [vM m, vAtom a] [] fun x _ => x = vi (closedF m.rules s0 v0 a) := by
  refine Con.intro Tryz.func92 rfl Tryz.ntmps92 Tryz.results92 (by kernel_rfl) (by simp) 2 (by simp) ?_
  have hmo := ha.mod
  unfold ModOk at hmo
  have lc := ha.coefs
  have lv := ha.values
  simp only [go_sem]
  refine CallU.free (con_holds a s0 v0 (by omega) (by omega) ha.small hb0 (by omega) ha.mod) (by simp only [go_sem]) (by simp only [go_sem, ← hst, vV_eq]) ?_
  rintro r bx rfl
  cases hh : holdsF a s0 v0
  · have e : closedF m.rules s0 v0 a = 42 := by unfold closedF; rw [hh]; rfl
    simp only [go_sem, e]
  simp only [go_sem]
  refine LoopK.intro (fun i : Nat => ⟨42, [(2, .pb 0 0), (3, .pb 1 0), (14, .sl 0 14 (m.rules.map vRule)), (15, vi m.rules.length), (16, vi i)], cM m :: [vs 0 a.coefs, vi a.mod, vs 0 a.values] :: Rk 14 i⟩)
    (fun i => m.rules.length - i) (fun i => i ≤ m.rules.length ∧ ∀ j, j < i → keepsF a m.rules[j]! = true) 0 ⟨by omega, fun j hj => by omega⟩ ?_ ?_
  · simp only [go_sem]
    exact leB_self _
  rintro i ⟨hi, hb⟩
  by_cases h : i < m.rules.length
  · have hg := getRule h
    have hw : IntKind.i64.wrap (i + 1) = i + 1 := wrap_in (by omega) (by omega)
    have hB' := Rk_len 14 i
    have n0 := fun L : List (List AV) => app_at0 (L := L) hB'
    have s0' := fun (L : List (List AV)) z => app_set0 (L := L) (z := z) hB'
    have hf := hr m.rules[i]! (mem_bangI h)
    obtain ⟨r1, r2, r3, r4, r5, r6⟩ := hf.right
    have ds : (m.rules[i]!.src.toNat : Int) = m.rules[i]!.src := by omega
    have dd : (m.rules[i]!.dst.toNat : Int) = m.rules[i]!.dst := by omega
    have hsl : m.rules[i]!.src.toNat < a.values.length := by omega
    have hdl : m.rules[i]!.dst.toNat < a.values.length := by omega
    have gs := getv hsl
    simp only [go_sem, h, hg, hB', n0, s0', r1, gs]
    refine ⟨by omega, ?_⟩
    refine DrawK.walk 15 mixed (by kernel_rfl) ?_
    have next : ∀ {P : Prop}, keepsF a m.rules[i]! = true → (∀ j, j < i + 1 → keepsF a m.rules[j]! = true) := fun hk j hj => by
      by_cases hji : j = i
      · subst hji; exact hk
      · exact hb j (by omega)
    by_cases ho : a.values[m.rules[i]!.src.toNat]! = 1099511627776
    · have hk : keepsF a m.rules[i]! = true := by unfold keepsF omegaI; rw [ho]; rfl
      have ho' : (a.values[m.rules[i]!.src.toNat]! != 1099511627776) = false := by rw [ho]; rfl
      simp only [go_sem, ho', hw]
      refine roundK.intro (i + 1) ⟨by omega, next (P := True) hk⟩ (by omega) ?_
      simp only [go_sem, Rk_succ]
      exact leB_RkA ⟨leC_any _ 14 rfl, trivial⟩
    · have ho' : (a.values[m.rules[i]!.src.toNat]! != 1099511627776) = true := bne_iff_ne.2 ho
      have hE := effect_small hf (by omega) ha.small
      have hV := (hB m.rules[i]!.src.toNat).resolve_left ho
      have hw2 : IntKind.i64.wrap (a.values[m.rules[i]!.src.toNat]! + effectF a.coefs m.rules[i]!) = a.values[m.rules[i]!.src.toNat]! + effectF a.coefs m.rules[i]! := wrap_in (by omega) (by omega)
      have hk : keepsF a m.rules[i]! = followsF a (a.values[m.rules[i]!.src.toNat]! + effectF a.coefs m.rules[i]!) m.rules[i]!.dst.toNat := by
        unfold keepsF omegaI
        rw [beq_eq_false_iff_ne.2 ho, Bool.false_or]
      simp only [go_sem, ho', n0]
      refine CallY.mk (con_effect a.coefs m.rules[i]! (by omega) (by omega) (by omega) ha.small hf.give hf.need) (by simp only [go_sem]) (by simp only [go_sem]) (.inl (by simp only [go_sem])) ?_
      simp only [go_sem, hw2, n0]
      refine CallY.mk (con_follows a (a.values[m.rules[i]!.src.toNat]! + effectF a.coefs m.rules[i]!) m.rules[i]!.dst.toNat hdl (by omega) (by omega)) (by simp only [go_sem, dd]) (by simp only [go_sem]) (.inl (by simp only [go_sem])) ?_
      cases hq : followsF a (a.values[m.rules[i]!.src.toNat]! + effectF a.coefs m.rules[i]!) m.rules[i]!.dst.toNat
      · simp only [go_sem]
        rw [closed_bad h hh (by rw [hk]; exact hq)]
      · simp only [go_sem, hw]
        refine roundK.intro (i + 1) ⟨by omega, next (P := True) (by rw [hk]; exact hq)⟩ (by omega) ?_
        simp only [go_sem, Rk_succ]
        exact leB_RkA ⟨leC_any _ 14 rfl, trivial⟩
  · simp only [go_sem, h]
    rw [closed_ok hh (fun j hj => hb j (by omega))]
end Go.AM

/-! ## CmT -/
namespace Go.AM
open Go Go.Proofs Go.RowKit

theorem values_bnd {mod : Int} {l : List Int} (hm : ModOk mod) (h : valuesB mod l = true) : InB 1099511627776 l := fun s => by
  by_cases hs : s < l.length
  · unfold valuesB at h
    simp only [Bool.not_eq_true', List.any_eq_false] at h
    have := h l[s]! (mem_bangI hs)
    unfold badV omegaI at *
    by_cases ho : l[s]! = 1099511627776
    · exact .inl ho
    · have ho' : (l[s]! != 1099511627776) = true := bne_iff_ne.2 ho
      rw [ho', Bool.true_and] at this
      simp only [Bool.or_eq_true, decide_eq_true_eq, not_or] at this
      unfold lowF highF ModOk at *
      right
      split at this <;> omega
  · have : l[s]! = 0 := by rw [getElem!_neg l s hs]; rfl
    rw [this]; right; omega
/-- a configuration that is right -/
structure GoodC (m : MD) (s : Nat) (v : List Int) : Prop where
  state : s < m.states.length
  len : v.length = m.places.length
  low : ∀ x ∈ v, 0 ≤ x ∧ x ≤ 1048576
theorem GoodC.small {m : MD} {s : Nat} {v : List Int} (h : GoodC m s v) : SmallI 1048576 v := fun x hx => by have := h.low x hx; omega
theorem GoodC.conf {m : MD} {s : Nat} {v : List Int} (h : GoodC m s v) : confB m.states.length m.places.length (cfgC s v) = true := by
  have h1 := h.state
  have a1 : (v.map fun n => CV.mk n []).all (fun k => decide (0 ≤ k.n) && decide (k.n ≤ 1048576) && k.kids.length == 0) = true := by
    rw [List.all_map, List.all_eq_true]
    intro n hn
    have := h.low n hn
    show (decide (0 ≤ n) && decide (n ≤ 1048576) && true) = true
    rw [decide_eq_true this.1, decide_eq_true this.2]; rfl
  have a2 : decide ((0 : Int) ≤ (s : Int)) = true := decide_eq_true (by omega)
  have a3 : decide ((s : Int) < (m.states.length : Int)) = true := decide_eq_true (by omega)
  have a4 : ((v.map fun n => CV.mk n []).length == m.places.length) = true := by rw [List.length_map, h.len]; simp
  show (((((((0 : Int) == 0) && decide ((0 : Int) ≤ (s : Int))) && decide ((s : Int) < (m.states.length : Int))) && true) && ((v.map fun n => CV.mk n []).length == m.places.length)) && (v.map fun n => CV.mk n []).all (fun k => decide (0 ≤ k.n) && decide (k.n ≤ 1048576) && k.kids.length == 0)) = true
  rw [a1, a2, a3, a4]; rfl
/-- a counter model without moves -/
structure PlainM (m : MD) (s0 : Nat) (v0 : List Int) : Prop where
  good : GoodM m
  still : m.rules.all stillB = true
  start : m.start = cfgC s0 v0
  conf : GoodC m s0 v0
theorem PlainM.fine {m : MD} {s0 : Nat} {v0 : List Int} (h : PlainM m s0 v0) : ∀ r ∈ m.rules, FineR m.states.length m.places.length r := fun r hr => rule_fine (h.good.rules r hr).1
set_option maxRecDepth 100000 in
set_option maxHeartbeats 1000000 in
theorem con_Holds (m : MD) (a : AtomD) (s0 : Nat) (v0 : List Int) (s : Nat) (v : List Int) (h : PlainM m s0 v0) (ha : FormA m a) (hc : GoodC m s v) :
    Con Tryz.prog 35 [vM m, vAtom a, vV (cfgC s v)] [] fun x _ => x = .tup [vb (valuesB a.mod a.values && holdsF a s v), vi (acheckF a)] := by
  have e0 := vV_eq (cfgC s v)
  have hco := conf_ok (by have := h.good.places; omega) hc.conf
  have h2 := h.good.places
  have h1 := h.good.states
  rw [e0]
  refine Con.intro Tryz.func35 rfl Tryz.ntmps35 Tryz.results35 (by kernel_rfl) (by simp) 3 (by simp) ?_
  simp only [go_sem]
  refine CallU.free (con_acheck m a h.good h.still ha) (by simp only [go_sem]) (by simp only [go_sem]) ?_
  rintro r bx rfl
  unfold acheckF
  cases hv : valuesB a.mod a.values
  · simp only [go_sem, Bool.false_eq_true, if_false]
    all_goals simp
  simp only [go_sem, if_true]
  refine CallU.free (con_mvalid m (cfgC s v) h.good hco.1 (by omega)) (by simp only [go_sem]) (by simp only [go_sem, vV_eq]) ?_
  rintro r bx rfl
  simp only [go_sem, hc.conf]
  refine CallU.free (con_holds a s v (by rw [ha.coefs, hc.len]; exact Nat.le_refl _) (by rw [hc.len]; omega) ha.small hc.small (by rw [ha.values]; exact hc.state) ha.mod) (by simp only [go_sem]) (by simp only [go_sem, vV_eq]) ?_
  rintro r bx rfl
  simp only [go_sem, Bool.true_and]
set_option maxRecDepth 100000 in
set_option maxHeartbeats 1000000 in
theorem con_Closed (m : MD) (a : AtomD) (s0 : Nat) (v0 : List Int) (h : PlainM m s0 v0) (ha : FormA m a) :
    Con Tryz.prog 33 [vM m, vAtom a] [] fun x _ => x = vi (if valuesB a.mod a.values then closedF m.rules s0 v0 a else 44) := by
  have h2 := h.good.places
  have h3 := h.good.few
  refine Con.intro Tryz.func33 rfl Tryz.ntmps33 Tryz.results33 (by kernel_rfl) (by simp) 2 (by simp) ?_
  simp only [go_sem]
  refine CallU.free (con_acheck m a h.good h.still ha) (by simp only [go_sem]) (by simp only [go_sem]) ?_
  rintro r bx rfl
  unfold acheckF
  cases hv : valuesB a.mod a.values
  · simp only [go_sem, Bool.false_eq_true, if_false]
    all_goals simp
  simp only [go_sem, if_true]
  refine CallU.free (con_closed m a s0 v0 h.start h.conf.len h.conf.small h.conf.state h.fine (by omega) (by omega) ha (values_bnd ha.mod hv)) (by simp only [go_sem]) (by simp only [go_sem]) ?_
  rintro r bx rfl
  simp only [go_sem]
set_option maxRecDepth 100000 in
set_option maxHeartbeats 1000000 in
theorem con_Excludes (m : MD) (a : AtomD) (s0 : Nat) (v0 : List Int) (s : Nat) (v : List Int) (h : PlainM m s0 v0) (ha : FormA m a) (hc : GoodC m s v) :
    Con Tryz.prog 36 [vM m, vAtom a, vV (cfgC s v)] [] fun x _ => x = .tup [vb (valuesB a.mod a.values && (!holdsF a s v) && closedF m.rules s0 v0 a == 0), vi (acheckF a)] := by
  have e0 := vV_eq (cfgC s v)
  have h2 := h.good.places
  have h3 := h.good.few
  have hH := con_Holds m a s0 v0 s v h ha hc
  unfold acheckF at hH ⊢
  rw [e0] at hH ⊢
  refine Con.intro Tryz.func36 rfl Tryz.ntmps36 Tryz.results36 (by kernel_rfl) (by simp) 3 (by simp) ?_
  simp only [go_sem]
  refine CallU.free hH (by simp only [go_sem]) (by simp only [go_sem]) ?_
  rintro r bx rfl
  cases hv : valuesB a.mod a.values
  · simp only [go_sem, Bool.false_eq_true, if_false, Bool.false_and]
    all_goals simp
  simp only [go_sem, if_true, Bool.true_and]
  cases hh : holdsF a s v
  · simp only [go_sem]
    refine CallU.free (con_closed m a s0 v0 h.start h.conf.len h.conf.small h.conf.state h.fine (by omega) (by omega) ha (values_bnd ha.mod hv)) (by simp only [go_sem]) (by simp only [go_sem]) ?_
    rintro r bx rfl
    simp only [go_sem]
    all_goals simp
  · simp only [go_sem]
    all_goals simp
end Go.AM

/-! ## CmU -/
namespace Go.AM
open Go Go.Proofs Go.RowKit

def vq (x : Int) : AV := .sc (.int .u64 x)
attribute [go_sem] vq
set_option maxRecDepth 100000 in
theorem con_mul64 (n : Nat) (hn : n ≤ 8) : Con Tryz.prog 201 [vq 1, vq n] [] fun r _ => r = .tup [vq 0, vq n] := by
  refine Con.intro Tryz.func201 rfl Tryz.ntmps201 Tryz.results201 (by kernel_rfl) (by simp) 0 (by simp) ?_
  simp only [go_sem]
  have h : n = 0 ∨ n = 1 ∨ n = 2 ∨ n = 3 ∨ n = 4 ∨ n = 5 ∨ n = 6 ∨ n = 7 ∨ n = 8 := by omega
  rcases h with rfl | rfl | rfl | rfl | rfl | rfl | rfl | rfl | rfl <;> (show AV.tup _ = AV.tup _; first | rfl | kernel_rfl)
set_option maxRecDepth 100000 in
theorem con_mul (n : Nat) (hn : n ≤ 8) : Con Tryz.prog 159 [vq 1, vq n] [] fun r _ => r = .tup [vq 0, vq n] := by
  refine Con.intro Tryz.func159 rfl Tryz.ntmps159 Tryz.results159 (by kernel_rfl) (by simp) 0 (by simp) ?_
  simp only [go_sem]
  refine CallU.free (con_mul64 n hn) (by simp only [go_sem]) (by simp only [go_sem]) ?_
  rintro r bx rfl
  simp only [go_sem]
theorem rep_zero (n : Nat) : List.replicate n (AV.sc (.int .i64 0)) = (List.replicate n (0 : Int)).map vi := by simp [vi]
theorem leafAll_vi (l : List Int) : leafAll (l.map vi) = true := by simp [leafAll, vi, AV.leafy]
theorem setSeg_all {y : Int} {l m : List Int} {k : Nat} (hf : k + m.length ≤ l.length) (hl : ∀ j, j < k → l[j]! = y) (hm : ∀ x ∈ m, x = y) : ∀ j, j < k + m.length → (setSeg l k m)[j]! = y := by
  intro j hj
  rw [setSeg_eq _ _ _ hf]
  have hk : k ≤ l.length := by omega
  by_cases h : j < k
  · have h2 := hl j h
    rw [getElem!_pos l j (by omega)] at h2
    rw [List.append_assoc, getElem!_pos _ j (by simp; omega), List.getElem_append_left (by simp; omega), List.getElem_take]; exact h2
  · rw [getElem!_pos _ j (by simp; omega), List.getElem_append_left (by simp; omega), List.getElem_append_right (by simp; omega)]
    exact hm _ (List.getElem_mem _)
set_option maxRecDepth 100000 in
theorem con_repeat (y : Int) (n : Nat) (h1 : 1 ≤ n) (hn : n ≤ 8) : Con Tryz.prog 98 [vs 0 [y], vi n] [] fun r _ => r = vs 2 (List.replicate n y) := by
  refine Con.intro Tryz.func98 rfl Tryz.ntmps98 Tryz.results98 (by kernel_rfl) (by simp) 0 (by simp) ?_
  have g0 : ¬ (n : Int) < 0 := by omega
  have w1 : IntKind.u64.wrap (1 : Int) = 1 := by kernel_rfl
  have w2 : IntKind.u64.wrap (n : Int) = n := by rw [IntKind.wrap_u64]; omega
  have w3 : IntKind.i64.wrap (n : Int) = n := wrap_in (by omega) (by omega)
  have g1 : ¬ (9223372036854775807 : Int) < n := by omega
  simp only [go_sem, g0, w1, w2]
  refine CallU.free (con_mul n hn) (by simp only [go_sem]) (by simp only [go_sem]) ?_
  rintro r bx rfl
  have t1 : List.take (n - 0) [AV.sc (Value.int .i64 y)] = [y].map vi := by
    rw [List.take_of_length_le (by simp; omega)]; simp [vi]
  have hl1 : leafAll [AV.sc (Value.int .i64 y)] = true := rfl
  have m1 : min 1 (n - 0) = 1 := by omega
  simp only [go_sem, g1, w3, rep_zero, List.length_replicate, t1, m1, List.map_cons, List.map_nil]
  refine ⟨Nat.le_refl _, by omega, by omega, by omega, ?_⟩
  refine LoopK.intro (fun p : List Int × Nat => ⟨48, [(4, .nil), (7, .sl 1984 1 (p.1.map vi)), (8, .sc (.int .i64 p.2))], []⟩)
    (fun p => n - p.2) (fun p => 1 ≤ p.2 ∧ p.2 ≤ n ∧ p.1.length = n ∧ ∀ j, j < p.2 → p.1[j]! = y) (setSeg (List.replicate n 0) 0 [y], 1) ⟨by simp, h1, by simp [setSeg_length], fun j hj => ?_⟩ ?_ ?_
  · have : j = 0 := by simp at hj; exact hj
    subst this
    have h0 : 0 < n := by omega
    simp [setSeg, h0]
  · simp only [go_sem, setSeg, List.map_set]
  rintro ⟨l, k⟩ ⟨k1, k2, k3, k4⟩
  simp only at k1 k2 k3 k4
  by_cases hk : k < n
  case neg =>
    have e : l = List.replicate n y := by
      apply List.ext_getElem?
      intro j
      by_cases hj : j < n
      · have := k4 j (by omega)
        rw [List.getElem?_replicate, if_pos hj, ← this]; simp [k3, hj]
      · rw [List.getElem?_eq_none (by omega), List.getElem?_eq_none (by simp; omega)]
    simp only [go_sem, hk, k3]
    rw [e]
  simp only [go_sem, hk, k3]
  refine DrawK.front [0] 7 mixed (by kernel_rfl) ?_
  have q0 : ¬ k = 0 := by omega
  have tk : ∀ m : Nat, List.take m (List.map vi l) = (List.take m l).map vi := fun m => List.map_take.symm
  have tk2 : List.take (n - k) (List.map vi (List.take k l)) = ((l.take k).take (n - k)).map vi := List.map_take.symm
  have hmin : min (min k n) (n - k) = min k (n - k) := by omega
  have hw : IntKind.i64.wrap (k + (min k (n - k) : Nat)) = (k + min k (n - k) : Nat) := by rw [wrap_in (by omega) (by omega)]; omega
  simp only [go_sem, hk, k3, k2, List.length_take, tk, tk2, setSeg_map, hmin, hw]
  have hml : ((l.take k).take (n - k)).length = min k (n - k) := by simp only [List.length_take]; omega
  have hmt : ∀ x ∈ (l.take k).take (n - k), x = y := fun x hx => by
    have hx := List.mem_of_mem_take hx
    obtain ⟨j, hj⟩ := List.getElem?_of_mem hx
    rw [List.getElem?_take] at hj
    split at hj
    · rename_i hjk
      have := k4 j hjk
      rw [bang_of hj] at this; exact this
    · cases hj
  have hset := setSeg_all (l := l) (m := (l.take k).take (n - k)) (k := k) (by rw [hml]; omega) k4 hmt
  rw [hml] at hset
  refine ⟨by omega, leafAll_vi _, roundK.intro (setSeg l k ((l.take k).take (n - k)), k + min k (n - k)) ⟨by show 1 ≤ k + min k (n - k); omega, by show k + min k (n - k) ≤ n; omega, by show (setSeg _ _ _).length = n; rw [setSeg_length]; exact k3, hset⟩ (by show n - (k + min k (n - k)) < n - k; omega) ?_⟩
  simp only [go_sem]
set_option maxRecDepth 100000 in
theorem con_clone (l : List Int) (h1 : 1 ≤ l.length) (h2 : l.length ≤ 1000000) : Con Tryz.prog 68 [vs 0 l] [] fun r _ => r = vs 2 l := by
  refine Con.intro Tryz.func68 rfl Tryz.ntmps68 Tryz.results68 (by kernel_rfl) (by simp) 0 (by simp) ?_
  cases l with
  | nil => simp at h1
  | cons x l =>
    simp only [List.length_cons] at h2
    simp only [go_sem]
    simp only [roomFor]
    omega
end Go.AM

/-! ## CmV -/
namespace Go.AM
open Go Go.Proofs Go.RowKit

@[go_sem] theorem mapB_killS_Rk {ts : List Nat} {c k : Nat} : mapB (killS ts) (Rk c k) = Rk c k := mapB_Rk rfl c k
@[go_sem] theorem mapB_mv_Rk {a b c k : Nat} : mapB (mvLeaf a b) (Rk c k) = Rk c k := mapB_Rk rfl c k
/-- the search's variable -/
def spreadC (m : MD) (c : List Int) (mod : Int) (t : Nat) (v : List Int) : List AV := [vi m.kind, vss m.states, vss m.places, vss m.letters, vs 0 m.ranks, vi m.levels, vi m.age, .sl 0 14 (m.rules.map vRule), vi m.start.n, .sl 0 2 (m.start.kids.map vV), vs 0 c, vi mod, vs t v]
attribute [go_sem] spreadC
set_option maxRecDepth 100000 in
set_option maxHeartbeats 4000000 in
theorem con_flow (m : MD) (c : List Int) (mod : Int) (v : List Int) (r : RD) (ns np : Nat) (hr : FineR ns np r) (hc : c.length = np) (hp : np ≤ 6) (h4 : SmallI 4 c) (hm : ModOk mod) (hv : v.length = ns) (hB : InB 1125899906842624 v) :
    ConX Tryz.prog 160 [.pb 0 0, vRule r] [spreadC m c mod 2 v] fun x b => x = .tup [vb (flowF mod c r v).1, vb (flowF mod c r v).2.1] ∧ b = [spreadC m c mod 2 (flowF mod c r v).2.2] := by
  refine ConX.intro Tryz.func160 rfl Tryz.ntmps160 Tryz.results160 (by kernel_rfl) (by simp) 1 (by simp) ?_
  obtain ⟨r1, r2, r3, r4, r5, r6⟩ := hr.right
  have hmo := hm
  unfold ModOk at hmo
  have hsl : r.src.toNat < v.length := by omega
  have hdl : r.dst.toNat < v.length := by omega
  have gs := getv hsl
  have gd := getv hdl
  simp only [go_sem]
  refine DrawK.walk 19 mixed (by kernel_rfl) ?_
  simp only [go_sem, r1, r3, gs]
  refine ⟨by omega, by omega, ?_⟩
  by_cases ho : v[r.src.toNat]! = 1099511627776
  · have e : flowF mod c r v = (false, true, v) := by unfold flowF omegaI; rw [if_pos ho]
    have ho' : (v[r.src.toNat]! == 1099511627776) = true := beq_iff_eq.2 ho
    simp only [go_sem, ho', e]
  have ho' : (v[r.src.toNat]! == 1099511627776) = false := beq_eq_false_iff_ne.2 ho
  have hE := effect_small hr (by omega) h4
  have hV := (hB r.src.toNat).resolve_left ho
  have hw2 : IntKind.i64.wrap (v[r.src.toNat]! + effectF c r) = v[r.src.toNat]! + effectF c r := wrap_in (by omega) (by omega)
  have hset : (List.map vi v).modify r.dst.toNat (updElem 0 [AV.sc (.int .i64 (nextF mod c r v))]) = (v.set r.dst.toNat (nextF mod c r v)).map vi := modify_vi
  simp only [go_sem, ho']
  refine DrawK.walk 10 mixed (by kernel_rfl) ?_
  simp only [go_sem]
  refine CallY.mk (con_effect c r (by omega) (by omega) (by omega) h4 hr.give hr.need) (by simp only [go_sem]) (by simp only [go_sem]) (.inl (by simp only [go_sem])) ?_
  by_cases hp0 : 0 < mod
  · have hm0 : (mod == 0) = false := beq_eq_false_iff_ne.2 (by omega)
    have hn : restF (v[r.src.toNat]! + effectF c r) mod = nextF mod c r v := by unfold nextF; rw [if_pos hp0]
    simp only [go_sem, hw2, hp0]
    refine CallU.free (con_rest (v[r.src.toNat]! + effectF c r) mod (by omega) (by omega)) (by simp only [go_sem]) (by simp only [go_sem]) ?_
    rintro x bx rfl
    by_cases hd : v[r.dst.toNat]! = 1099511627776
    · have e : flowF mod c r v = (true, true, v.set r.dst.toNat (nextF mod c r v)) := by unfold flowF omegaI; rw [if_neg ho, if_pos (.inl hd)]
      have hd' : (v[r.dst.toNat]! == 1099511627776) = true := beq_iff_eq.2 hd
      simp only [go_sem, hn, gd, hd', hset, e]
    have hd' : (v[r.dst.toNat]! == 1099511627776) = false := beq_eq_false_iff_ne.2 hd
    by_cases hq : nextF mod c r v = v[r.dst.toNat]!
    · have e : flowF mod c r v = (false, true, v) := by unfold flowF omegaI; rw [if_neg ho, if_neg (by omega), if_neg (fun h => h.2 hq)]
      have hq' : (nextF mod c r v != v[r.dst.toNat]!) = false := by rw [hq]; simp
      simp only [go_sem, hn, gd, hd', hm0, hp0, hq', e]
    · have e : flowF mod c r v = (false, false, v) := by unfold flowF omegaI; rw [if_neg ho, if_neg (by omega), if_pos ⟨hp0, hq⟩]
      have hq' : (nextF mod c r v != v[r.dst.toNat]!) = true := bne_iff_ne.2 hq
      simp only [go_sem, hn, gd, hd', hm0, hp0, hq', e]
  · have hz : mod = 0 := by omega
    have hm0 : (mod == 0) = true := beq_iff_eq.2 hz
    have hn : v[r.src.toNat]! + effectF c r = nextF mod c r v := by unfold nextF; rw [if_neg hp0]
    have hw3 : IntKind.i64.wrap (nextF mod c r v) = nextF mod c r v := by rw [← hn]; exact hw2
    by_cases hd : v[r.dst.toNat]! = 1099511627776
    · have e : flowF mod c r v = (true, true, v.set r.dst.toNat (nextF mod c r v)) := by unfold flowF omegaI; rw [if_neg ho, if_pos (.inl hd)]
      have hd' : (v[r.dst.toNat]! == 1099511627776) = true := beq_iff_eq.2 hd
      simp only [go_sem, hw3, hp0, hn, gd, hd', hset, e]
    have hd' : (v[r.dst.toNat]! == 1099511627776) = false := beq_eq_false_iff_ne.2 hd
    by_cases hq : nextF mod c r v < v[r.dst.toNat]!
    · have e : flowF mod c r v = (true, true, v.set r.dst.toNat (nextF mod c r v)) := by unfold flowF omegaI; rw [if_neg ho, if_pos (.inr ⟨hz, hq⟩)]
      simp only [go_sem, hw3, hp0, hn, gd, hd', hm0, hq, hset, e]
    · have e : flowF mod c r v = (false, true, v) := by unfold flowF omegaI; rw [if_neg ho, if_neg (by omega), if_neg (fun h => hp0 h.1)]
      simp only [go_sem, hw3, hp0, hn, gd, hd', hm0, hq, e]
set_option maxRecDepth 100000 in
set_option maxHeartbeats 4000000 in
theorem con_round (m : MD) (c : List Int) (mod : Int) (v : List Int) (ns np : Nat) (hr : ∀ r ∈ m.rules, FineR ns np r) (hrl : m.rules.length ≤ 12) (hc : c.length = np) (hp : np ≤ 6) (h4 : SmallI 4 c) (hm : ModOk mod) (hv : v.length = ns) (hB : InB 562949953421312 v) :
    ConX Tryz.prog 102 [.pb 0 0] [spreadC m c mod 2 v] fun x b => (∃ ch w, roundF mod c m.rules false v = some (ch, w) ∧ x = .tup [vb ch, vb true] ∧ b = [spreadC m c mod 2 w]) ∨ (∃ w, roundF mod c m.rules false v = none ∧ x = .tup [vb false, vb false] ∧ b = [spreadC m c mod 2 w]) := by
  refine ConX.intro Tryz.func102 rfl Tryz.ntmps102 Tryz.results102 (by kernel_rfl) (by simp) 1 (by simp) ?_
  have hmo := hm
  unfold ModOk at hmo
  simp only [go_sem]
  refine LoopK.intro (fun q : Nat × Bool × List Int => ⟨33, [(0, .pb 0 0), (2, vb false), (3, vb false), (4, vb q.2.1), (13, .sl 0 14 (m.rules.map vRule)), (14, vi m.rules.length), (15, vi q.1)], spreadC m c mod 2 q.2.2 :: Rk 14 q.1⟩)
    (fun q => m.rules.length - q.1) (fun q => q.1 ≤ m.rules.length ∧ q.2.2.length = ns ∧ InB (562949953421312 + q.1 * 50331648) q.2.2 ∧ roundF mod c (m.rules.drop q.1) q.2.1 q.2.2 = roundF mod c m.rules false v) (0, false, v) ⟨by simp, hv, by simpa using hB, rfl⟩ ?_ ?_
  · simp only [go_sem]
    exact leB_self _
  rintro ⟨i, ch, w⟩ ⟨hi, hw, hBw, he⟩
  simp only at hi hw hBw he
  by_cases h : i < m.rules.length
  · have hg := getRule h
    have hwi : IntKind.i64.wrap (i + 1) = i + 1 := wrap_in (by omega) (by omega)
    have hB' := Rk_len 14 i
    have n0 := fun L : List (List AV) => app_at0 (L := L) hB'
    have s0' := fun (L : List (List AV)) z => app_set0 (L := L) (z := z) hB'
    have hf := hr m.rules[i]! (mem_bangI h)
    obtain ⟨r1, r2, r3, r4, r5, r6⟩ := hf.right
    have hfl := con_flow m c mod w m.rules[i]! ns np hf hc hp h4 hm hw (hBw.mono (by omega))
    have ed : m.rules.drop i = m.rules[i]! :: m.rules.drop (i + 1) := by rw [List.drop_eq_getElem_cons h, getElem!_pos m.rules i h]
    rw [ed, roundF] at he
    simp only [go_sem, h, hg, hB', n0, s0']
    refine CallU.own (i := 0) (is := []) (bx0 := [spreadC m c mod 2 w]) hfl (by simp only [go_sem]) (by simp only [go_sem]) [2] (by simp only [go_sem]) (by simp only [go_sem]) (by simp only [go_sem]) (by simp only [go_sem]) ?_
    rintro x b ⟨rfl, rfl⟩
    cases hok : (flowF mod c m.rules[i]! w).2.1
    · rw [hok] at he
      simp only [go_sem]
      exact .inr ⟨_, he.symm, rfl⟩
    rw [hok, if_pos rfl] at he
    have hb2 := flow_bnd (mod := mod) (coefs := c) (r := m.rules[i]!) (v := w) (by omega) (by omega) (by omega) (effect_small hf (by omega) h4) hBw
    have hl2 := flow_len mod c m.rules[i]! w
    cases hch : ch
    · rw [hch, Bool.false_or] at he
      simp only [go_sem, hwi]
      refine roundK.mv 1474 2 (by omega) (by omega) (by omega) (i + 1, (flowF mod c m.rules[i]! w).1, (flowF mod c m.rules[i]! w).2.2) ⟨by show i + 1 ≤ _; omega, by show (flowF mod c m.rules[i]! w).2.2.length = ns; omega, hb2.mono (by show _ ≤ (562949953421312 : Int) + ((i + 1 : Nat) : Int) * 50331648; omega), he⟩ (by show m.rules.length - (i + 1) < m.rules.length - i; omega) ?_
      simp only [go_sem, Rk_succ]
      exact ⟨leV_refl _, leB_RkA ⟨leC_any _ 14 rfl, trivial⟩⟩
    · rw [hch, Bool.true_or] at he
      simp only [go_sem, hwi]
      refine roundK.mv 1474 2 (by omega) (by omega) (by omega) (i + 1, true, (flowF mod c m.rules[i]! w).2.2) ⟨by show i + 1 ≤ _; omega, by show (flowF mod c m.rules[i]! w).2.2.length = ns; omega, hb2.mono (by show _ ≤ (562949953421312 : Int) + ((i + 1 : Nat) : Int) * 50331648; omega), he⟩ (by show m.rules.length - (i + 1) < m.rules.length - i; omega) ?_
      simp only [go_sem, Rk_succ]
      exact ⟨leV_refl _, leB_RkA ⟨leC_any _ 14 rfl, trivial⟩⟩
  · obtain rfl : i = m.rules.length := by omega
    rw [List.drop_length, roundF] at he
    simp only [go_sem, h]
    exact .inl ⟨ch, w, he.symm, rfl, rfl⟩
end Go.AM

/-! ## CmW -/
namespace Go.AM
open Go Go.Proofs Go.RowKit

theorem con_cloneF (l : List Int) (h1 : 1 ≤ l.length) (h2 : l.length ≤ 1000000) : Con Tryz.prog 68 [vs 0 l] [] fun r _ => r = vs 0 l :=
  (Con.freezeR (fun _ => true) (con_clone l h1 h2)).weak fun r b ⟨r0, h0, h1⟩ => by
    subst h0; subst h1
    exact ⟨_, rfl, leV_refl _⟩
theorem memless_vi (l : List Int) : (l.map vi).all memless = true := by rw [List.all_map, List.all_eq_true]; exact fun _ _ => rfl
/-- what the search answers -/
def potR (mod : Int) (c : List Int) (rules : List RD) (ns : Nat) (v0 : List Int) : Option (List Int) := potF mod c rules ns (beginF mod ns (sumF c v0))
def noA : AV := .ag [.nil, vi 0, .nil]
def potV (c : List Int) (mod : Int) : Option (List Int) → AV
  | some w => .tup [.ag [vs 0 c, vi mod, vs 2 w], vb true, vi 0]
  | none => .tup [noA, vb false, vi 0]
attribute [go_sem] noA
theorem begin_set {mod : Int} {ns : Nat} {f0 : Int} : (List.map vi (List.replicate ns 1099511627776)).modify 0 (updElem 0 [AV.sc (.int .i64 (firstF mod f0))]) = (beginF mod ns f0).map vi := modify_vi
theorem begin_bnd {mod : Int} {ns : Nat} {f0 : Int} (hns : 0 < ns) (hm : ModOk mod) (hf : -25165824 ≤ f0 ∧ f0 ≤ 25165824) : InB 25165824 (beginF mod ns f0) := fun s => by
  by_cases hs : s < ns
  · cases s with
    | zero =>
      rw [begin_zero hns]
      right
      unfold firstF ModOk at *
      split
      · rename_i h
        rw [restF_emod h]
        have h1 := Int.emod_nonneg f0 (show mod ≠ 0 by omega)
        have h2 := Int.emod_lt_of_pos f0 h
        omega
      · exact hf
    | succ s => exact .inl (begin_succ hns hs)
  · have : (beginF mod ns f0)[s]! = 0 := by rw [getElem!_neg _ s (by rw [begin_len]; exact hs)]; rfl
    rw [this]; right; omega
set_option maxRecDepth 100000 in
set_option maxHeartbeats 4000000 in
theorem con_Potential (m : MD) (c : List Int) (mod : Int) (v0 : List Int) (h : PlainM m 0 v0) (hc : c.length = m.places.length) (h4 : SmallI 4 c) (hm : ModOk mod) :
    Con Tryz.prog 37 [vM m, vs 0 c, vi mod] [] fun x _ => x = potV c mod (potR mod c m.rules m.states.length v0) := by
  refine Con.intro Tryz.func37 rfl Tryz.ntmps37 Tryz.results37 (by kernel_rfl) (by simp) 0 (by simp) ?_
  have h1 := h.good.states
  have h2 := h.good.places
  have h3 := h.good.few
  have hmo := hm
  unfold ModOk at hmo
  have c1 : ((c.length : Int) != (m.places.length : Int)) = false := by rw [hc]; simp
  have hsum := sum_small h4 h.conf.small
  have hs6 := mul_le6 (n := c.length) (by omega)
  have hl0 := h.conf.len
  have hk : m.start.kids = .mk 0 [] :: v0.map fun n => .mk n [] := by rw [h.start]; rfl
  have hn0 : m.start.n = 0 := by rw [h.start]; rfl
  have hg0 : (m.start.kids.map vV)[0]? = some (.ag [.sc (.int .i64 0), .sl 0 2 []]) := by rw [hk]; exact getvV (l := .mk 0 [] :: v0.map fun n => CV.mk n []) (by simp)
  have hkl : 0 < m.start.kids.length := by rw [hk]; simp
  have hn := con_numbers m.start.n (.mk 0 []) (v0.map fun n => .mk n []) (by simp; omega)
  rw [cfg_nums, ← hk] at hn
  simp only [go_sem]
  refine CallU.free (con_counts m h.good h.still) (by simp only [go_sem]) (by simp only [go_sem]) ?_
  rintro r bx rfl
  simp only [go_sem, c1]
  refine CallU.free (con_fits c h4 (by omega)) (by simp only [go_sem]) (by simp only [go_sem]) ?_
  rintro r bx rfl
  simp only [go_sem]
  refine CallU.free (con_modulus mod hm) (by simp only [go_sem]) (by simp only [go_sem]) ?_
  rintro r bx rfl
  simp only [go_sem]
  refine DrawK.walk 11 mixed (by kernel_rfl) ?_
  simp only [go_sem]
  refine CallY.mk (con_cloneF c (by omega) (by omega)) (by simp only [go_sem]) (by simp only [go_sem]) (.inl (by simp only [go_sem])) ?_
  simp only [go_sem]
  refine CallY.mk (con_repeat 1099511627776 m.states.length h1.1 h1.2) (by simp only [go_sem, List.map_cons, List.map_nil]) (by simp only [go_sem]) (.inr (by simp only [go_sem, memless_vi])) ?_
  simp only [go_sem]
  refine CallU.free hn (by simp only [go_sem]) (by simp only [go_sem]) ?_
  rintro r bx rfl
  simp only [go_sem]
  refine CallU.flat (con_sum c v0 (by omega) (by omega) h4 h.conf.small) (by simp only [go_sem]) (by simp only [go_sem]) ?_
  rintro r bx rfl
  by_cases hp0 : 0 < mod
  case' pos =>
    simp only [go_sem, hp0]
    refine CallU.free (con_rest (sumF c v0) mod (by omega) (by omega)) (by simp only [go_sem]) (by simp only [go_sem]) ?_
    rintro r bx rfl
    have hf : restF (sumF c v0) mod = firstF mod (sumF c v0) := by unfold firstF; rw [if_pos hp0]
    rw [hf]
    simp only [go_sem]
  case' neg =>
    have hf : sumF c v0 = firstF mod (sumF c v0) := by unfold firstF; rw [if_neg hp0]
    rw [hf]
    simp only [go_sem, hp0]
  all_goals
    refine DrawK.meet ⟨110, [(3, .pb 0 0), (6, .pb 1 0), (7, vb false), (8, vi 0), (10, .pb 2 0)], [cM m, [.any, .any, .any], spreadC m c mod 3138 (beginF mod m.states.length (sumF c v0))]⟩ ?_ ?_
    · refine DrawK.walk 13 mixed (by kernel_rfl) ?_
      simp only [go_sem, hkl, hg0, List.length_replicate]
      refine ⟨by omega, ?_⟩
      rw [begin_set]
      exact leV_refl _
    · simp only [go_sem]
      refine LoopK.intro (fun q : Nat × List Int => ⟨110, [(3, .pb 0 0), (6, .pb 1 0), (7, vb false), (8, vi 0), (10, .pb 2 0), (77, vi m.states.length), (78, vi q.1)], [cM m, [.any, .any, .any], spreadC m c mod 3138 q.2]⟩)
        (fun q => m.states.length - q.1) (fun q => q.1 ≤ m.states.length ∧ q.2.length = m.states.length ∧ InB (25165824 + q.1 * 603979776) q.2 ∧ potF mod c m.rules (m.states.length - q.1) q.2 = potR mod c m.rules m.states.length v0) (0, beginF mod m.states.length (sumF c v0)) ⟨by simp, begin_len _ _ _, by simpa using begin_bnd (by omega) hm ⟨by omega, by omega⟩, rfl⟩ ?_ ?_
      · simp only [go_sem]
      rintro ⟨i, w⟩ ⟨hi, hw, hB, he⟩
      simp only at hi hw hB he
      have hR : RulesIn m.states.length m.rules := fun r hr => by have := (h.fine r hr).right; unfold RightR at this; omega
      have hE : ∀ r ∈ m.rules, -50331648 ≤ effectF c r ∧ effectF c r ≤ 50331648 := fun r hr => effect_small (h.fine r hr) (by omega) h4
      have hrd := con_round m c mod w m.states.length m.places.length h.fine h3 hc (by omega) h4 hm hw (hB.mono (by omega))
      by_cases hlt : i < m.states.length
      · have hwi : IntKind.i64.wrap (i + 1) = i + 1 := wrap_in (by omega) (by omega)
        rw [show m.states.length - i = (m.states.length - (i + 1)) + 1 by omega, potF] at he
        simp only [go_sem, hlt]
        refine CallU.own (i := 2) (is := []) (bx0 := [spreadC m c mod 3138 w]) hrd (by simp only [go_sem]) (by simp only [go_sem]) [3138] (by simp only [go_sem]) (by simp only [go_sem]) (by simp only [go_sem]) (by simp only [go_sem]) ?_
        rintro x b (⟨ch, w', hq, rfl, rfl⟩ | ⟨w', hq, rfl, rfl⟩)
        · cases ch
          · rw [hq] at he
            simp only at he
            rw [← he]
            simp only [go_sem, potV]
          · rw [hq] at he
            simp only at he
            have hb2 := round_bnd (by omega) hR hE hw (by omega) hB hq
            simp only [go_sem, hwi]
            refine roundK.mv 5314 3138 (by omega) (by omega) (by omega) (i + 1, w') ⟨by show i + 1 ≤ _; omega, hb2.1, hb2.2.mono (by show _ ≤ (25165824 : Int) + ((i + 1 : Nat) : Int) * 603979776; omega), he⟩ (by show m.states.length - (i + 1) < m.states.length - i; omega) ?_
            simp only [go_sem]
            exact leV_refl _
        · rw [hq] at he
          simp only at he
          rw [← he]
          simp only [go_sem, potV]
      · obtain rfl : i = m.states.length := by omega
        rw [Nat.sub_self, potF] at he
        simp only [go_sem, hlt]
        refine CallU.own (i := 2) (is := []) (bx0 := [spreadC m c mod 3138 w]) hrd (by simp only [go_sem]) (by simp only [go_sem]) [3138] (by simp only [go_sem]) (by simp only [go_sem]) (by simp only [go_sem]) (by simp only [go_sem]) ?_
        rintro x b (⟨ch, w', hq, rfl, rfl⟩ | ⟨w', hq, rfl, rfl⟩)
        · cases ch
          · rw [hq] at he
            simp only at he
            rw [← he]
            simp only [go_sem, potV]
          · rw [hq] at he
            simp only at he
            rw [← he]
            simp only [go_sem, potV]
        · rw [hq] at he
          simp only at he
          rw [← he]
          simp only [go_sem, potV]
end Go.AM

/-! ## CmX -/
namespace Go.AM
open Go Go.Proofs Go.RowKit

/-! ### configurations and models as they are built: what is empty is nil -/
theorem flat_cons (x : AV) (l : List AV) : flat (x :: l) = x.cells ++ flat l := by simp [flat]
theorem kids_pw : ∀ l : List Int, PW Sub (flat (l.map kidN)) (flat ((l.map fun n => CV.mk n []).map vV))
  | [] => PW.nil _
  | n :: l => by
    rw [List.map_cons, List.map_cons, List.map_cons, flat_cons, flat_cons, vV_eq]
    exact PW.append (PW.cons (Sub.refl _) (PW.cons (Sub.nil 2) (PW.nil _))) (kids_pw l)
theorem cfg_le (s : Nat) (v : List Int) : leV (cfgN 0 s v) (vV (cfgC s v)) := by
  rw [vV_eq]
  refine leV_ag ⟨leV_refl _, ?_, trivial⟩
  show leV (.sl 0 2 (((s : Int) :: v).map kidN)) (.sl 0 2 ((((s : Int) :: v).map fun n => CV.mk n []).map vV))
  exact leV_slE (by simp) (fun y hy => by
    obtain ⟨x, _, rfl⟩ := List.mem_map.1 hy
    rw [vV_eq]; rfl) (kids_pw _)
/-- a counter model's rule without moves -/
def ruleN (r : RD) : AV := .ag [vStr r.name, vi r.src, vi r.dst, vs 0 r.need, vs 0 r.give, .nil, vi 0, vi 0, vi 0, .nil, .nil, .nil, .nil, vi 0]
attribute [go_sem] ruleN
def ThinR (r : RD) : Prop := r = bareR r.name r.src r.dst r.need r.give []
theorem rules_pw : ∀ l : List RD, (∀ r ∈ l, ThinR r) → PW Sub (flat (l.map ruleN)) (flat (l.map vRule))
  | [], _ => PW.nil _
  | r :: l, h => by
    rw [List.map_cons, List.map_cons, flat_cons, flat_cons]
    refine PW.append ?_ (rules_pw l fun x hx => h x (List.mem_cons_of_mem _ hx))
    rw [h r (List.mem_cons_self ..)]
    have e1 : Sub .nil (vs 0 []) := Sub.nil 1
    have e3 : Sub .nil (.sl 0 3 (([] : List (Int × Int × Int)).map vTake)) := Sub.nil 3
    exact PW.cons (Sub.refl _) (PW.cons (Sub.refl _) (PW.cons (Sub.refl _) (PW.cons (Sub.refl _) (PW.cons (Sub.refl _) (PW.cons e1 (PW.cons (Sub.refl _) (PW.cons (Sub.refl _) (PW.cons (Sub.refl _) (PW.cons e1 (PW.cons e1 (PW.cons e3 (PW.cons e1 (PW.cons (Sub.refl _) (PW.nil _))))))))))))))
/-- a counter model without moves, as it is built -/
def modelN (m : MD) (t s0 : Nat) (v0 : List Int) : AV := .ag [vi 1, vss m.states, vss m.places, .nil, .nil, vi 0, vi 0, .sl t 14 (m.rules.map ruleN), vi 0, .sl t 2 (((s0 : Int) :: v0).map kidN)]
attribute [go_sem] modelN
theorem model_le {m : MD} {s0 : Nat} {v0 : List Int} (h : GoodM m) (hr : ∀ r ∈ m.rules, ThinR r) (hs : m.start = cfgC s0 v0) : leV (modelN m 0 s0 v0) (vM m) := by
  have hc := cfg_le s0 v0
  rw [vV_eq] at hc
  unfold modelN vM cM
  rw [h.kind, h.letters, h.ranks, h.levels, h.age, hs]
  refine leV_ag ⟨leV_refl _, leV_refl _, leV_refl _, leV_nil 0 1, leV_nil 0 1, leV_refl _, leV_refl _, ?_, leV_refl _, ?_, trivial⟩
  · exact leV_slE (by simp) (fun y hy => by obtain ⟨x, _, rfl⟩ := List.mem_map.1 hy; rfl) (rules_pw _ hr)
  · show leV (.sl 0 2 (((s0 : Int) :: v0).map kidN)) (.sl 0 2 ((((s0 : Int) :: v0).map fun n => CV.mk n []).map vV))
    exact leV_slE (by simp) (fun y hy => by
      obtain ⟨x, _, rfl⟩ := List.mem_map.1 hy
      rw [vV_eq]; rfl) (kids_pw _)

def saneR : RD := ⟨⟨#[114]⟩, 0, 0, [1], [3], [], 0, 0, 0, [], [], [], [], 0⟩
def saneM : MD := { kind := 1, states := [⟨#[97]⟩], places := [⟨#[120]⟩], rules := [saneR], start := cfgC 0 [2] }
theorem sane_plain : PlainM saneM 0 [2] := by
  refine ⟨⟨rfl, by decide, by decide, by decide, rfl, rfl, rfl, rfl, by decide +kernel, ?_, by decide +kernel⟩, by decide +kernel, rfl, ⟨by decide, by decide, ?_⟩⟩
  · intro r hr
    have : r = saneR := by simpa [saneM] using hr
    subst this
    decide +kernel
  · intro x hx
    have : x = 2 := by simpa using hx
    subst this; omega
theorem sane_le : leV (modelN saneM 0 0 [2]) (vM saneM) := model_le sane_plain.good (fun r hr => by
  have : r = saneR := by simpa [saneM] using hr
  subst this; rfl) rfl
def saneA : AtomD := ⟨[1], 2, [0]⟩
theorem one_mem {x y : Int} (h : x ∈ [y]) : x = y := by simpa using h
theorem sane_form : FormA saneM saneA := ⟨rfl, fun x hx => by rw [one_mem (y := 1) hx]; omega, .inr ⟨by decide, by decide⟩, rfl⟩
set_option maxRecDepth 100000 in
set_option maxHeartbeats 4000000 in
theorem con_sane32 : Con Tryz.prog 31 [] [] fun r _ => r = vb true := by
  refine Con.intro Tryz.func31 rfl Tryz.ntmps31 Tryz.results31 (by kernel_rfl) (by simp) 0 (by simp) ?_
  have hp : potR 2 [1] saneM.rules saneM.states.length [2] = some [0] := by decide +kernel
  have hP := con_Potential saneM [1] 2 [2] sane_plain rfl sane_form.small (.inr ⟨by decide, by decide⟩)
  rw [hp] at hP
  have x5 : (valuesB saneA.mod saneA.values && (!holdsF saneA 0 [5]) && closedF saneM.rules 0 [2] saneA == 0) = true := by decide +kernel
  have x6 : (valuesB saneA.mod saneA.values && (!holdsF saneA 0 [6]) && closedF saneM.rules 0 [2] saneA == 0) = false := by decide +kernel
  have xa : acheckF saneA = 0 := by decide +kernel
  have h5 := con_Excludes saneM saneA 0 [2] 0 [5] sane_plain sane_form ⟨by decide, by decide, fun x hx => by rw [one_mem hx]; omega⟩
  have h6 := con_Excludes saneM saneA 0 [2] 0 [6] sane_plain sane_form ⟨by decide, by decide, fun x hx => by rw [one_mem hx]; omega⟩
  rw [x5, xa] at h5
  rw [x6, xa] at h6
  simp only [go_sem]
  refine CallU.freeze (hP.leA (args' := [modelN saneM 0 0 [2], vs 0 [1], vi 2]) ⟨sane_le, leV_refl _, leV_refl _, trivial⟩) (by simp only [go_sem]) (by simp only [go_sem, saneM, saneR, List.map_cons, List.map_nil]) ?_
  rintro r bx rfl
  simp only [go_sem, potV, List.map_cons, List.map_nil]
  refine CallU.freeze (h5.leA (args' := [modelN saneM 0 0 [2], vAtom saneA, cfgN 0 0 [5]]) ⟨sane_le, leV_refl _, cfg_le 0 [5], trivial⟩) (by simp only [go_sem]) (by simp only [go_sem, saneM, saneR, saneA, List.map_cons, List.map_nil]) ?_
  rintro r bx rfl
  simp only [go_sem]
  refine CallU.freeze (h6.leA (args' := [modelN saneM 0 0 [2], vAtom saneA, cfgN 0 0 [6]]) ⟨sane_le, leV_refl _, cfg_le 0 [6], trivial⟩) (by simp only [go_sem]) (by simp only [go_sem, saneM, saneR, saneA, List.map_cons, List.map_nil]) ?_
  rintro r bx rfl
  simp only [go_sem]
  refine CallU.free (con_candidates 1 (by omega) (by omega)) (by simp only [go_sem]) (by simp only [go_sem]) ?_
  rintro r bx rfl
  simp only [go_sem]
  rfl
end Go.AM

/-! ## CnA -/
namespace Go.AM
open Go Go.Proofs Go.RowKit

def statesL : List ByteArray := [⟨#[97]⟩, ⟨#[98]⟩]
def placesL : List ByteArray := [⟨#[120]⟩, ⟨#[121]⟩]
def ruleNames : List ByteArray := [⟨#[114]⟩, ⟨#[115]⟩, ⟨#[116]⟩]
/-- a rule of the dice -/
structure DealR (ns np : Nat) (r : RD) : Prop where
  thin : ThinR r
  src : 0 ≤ r.src ∧ r.src < ns
  dst : 0 ≤ r.dst ∧ r.dst < ns
  need : r.need.length = np ∧ ∀ x ∈ r.need, 0 ≤ x ∧ x ≤ 2
  give : r.give.length = np ∧ ∀ x ∈ r.give, 0 ≤ x ∧ x ≤ 2
def dealM (ns np : Nat) (rules : List RD) (v0 : List Int) : MD := { kind := 1, states := statesL.take ns, places := placesL.take np, rules := rules, start := cfgC 0 v0 }
/-- what the dice deal -/
structure DealM (ns np : Nat) (rules : List RD) (v0 : List Int) : Prop where
  hns : 1 ≤ ns ∧ ns ≤ 2
  hnp : 1 ≤ np ∧ np ≤ 2
  len : 1 ≤ rules.length ∧ rules.length ≤ 3
  names : rules.map RD.name = ruleNames.take rules.length
  rules : ∀ r ∈ rules, DealR ns np r
  start : v0.length = np ∧ ∀ x ∈ v0, 0 ≤ x ∧ x ≤ 3

set_option maxRecDepth 100000 in
set_option maxHeartbeats 4000000 in
theorem con_counter (l : List Int) (at_ : Nat) (hs : Seeds l) (ha : at_ ≤ l.length) :
    Con Tryz.prog 15 [.pb 0 0, vb false] [diceA l at_]
    fun r b => ∃ (ns np : Nat) (rules : List RD) (v0 : List Int) (at' : Nat), DealM ns np rules v0 ∧ at' ≤ l.length ∧ b = [diceA l at'] ∧ r = .ag [vi 1, .sl 2 1 ((statesL.take ns).map vStr), .sl 3 1 ((placesL.take np).map vStr), .nil, .nil, vi 0, vi 0, .sl 4 14 (rules.map ruleN), vi 0, .sl 5 2 (((0 : Int) :: v0).map kidN)] := by
  refine Con.intro Tryz.func15 rfl Tryz.ntmps15 Tryz.results15 (by kernel_rfl) (by simp) 1 (by simp) ?_
  have hp1 := pickA_le ha
  simp only [go_sem]
  refine DrawK.news0 [(11, 2)] [10] [(10, 14), (10, 20), (15, 19), (15, 20)] 0 [2, 7] [] 12 (.one 12 .done) none (diceA l at_) mixed (by kernel_rfl) (by kernel_rfl) (by kernel_rfl) (by simp only [go_sem]) (by simp only [go_sem]) ⟨by simp only [go_sem], by simp only [go_sem]⟩ ⟨by simp only [go_sem], by simp only [go_sem]⟩ ?_
  simp only [go_sem]
  refine EffK.mk (con_pickF l at_ 2 hs ha (by omega)) (by simp only [go_sem]) (by simp only [go_sem]) (by simp only [go_sem]) (by simp only [go_sem]) ?_
  obtain ⟨ns, ens, hns1, hns2⟩ : ∃ ns : Nat, 1 + pickV l at_ 2 = ns ∧ 1 ≤ ns ∧ ns ≤ 2 := by
    have := pickV_lt (l := l) (at_ := at_) (show (1 : Int) ≤ 2 by omega)
    exact ⟨(1 + pickV l at_ 2).toNat, by omega, by omega, by omega⟩
  obtain ⟨np, enp, hnp1, hnp2⟩ : ∃ np : Nat, 1 + pickV l (pickA l at_) 2 = np ∧ 1 ≤ np ∧ np ≤ 2 := by
    have := pickV_lt (l := l) (at_ := pickA l at_) (show (1 : Int) ≤ 2 by omega)
    exact ⟨(1 + pickV l (pickA l at_) 2).toNat, by omega, by omega, by omega⟩
  have hw1 : IntKind.i64.wrap (1 + pickV l at_ 2) = ns := by rw [wrap_in (by omega) (by omega), ens]
  have hw2 : IntKind.i64.wrap (1 + pickV l (pickA l at_) 2) = np := by rw [wrap_in (by omega) (by omega), enp]
  simp only [go_sem, hw1, hns2]
  refine EffK.mk (con_pickF l (pickA l at_) 2 hs hp1 (by omega)) (by simp only [go_sem]) (by simp only [go_sem]) (by simp only [go_sem]) (by simp only [go_sem]) ?_
  have hp2 := pickA_le hp1
  have hrep : List.replicate 10 AV.any = [.any, .any, .any, .any, .any, .any, .any, .any, .any, .any] := rfl
  have est : List.take ns [AV.sc (Value.string { data := #[97] }), AV.sc (Value.string { data := #[98] })] = (statesL.take ns).map vStr := by rw [List.map_take]; rfl
  have epl : List.take np [AV.sc (Value.string { data := #[120] }), AV.sc (Value.string { data := #[121] })] = (placesL.take np).map vStr := by rw [List.map_take]; rfl
  have lst : (statesL.take ns).length = ns := by rw [List.length_take]; simp only [statesL, List.length_cons, List.length_nil]; omega
  have lpl : (placesL.take np).length = np := by rw [List.length_take]; simp only [placesL, List.length_cons, List.length_nil]; omega
  simp only [go_sem, hw2, hnp2, hrep, est, epl, lpl]
  refine ⟨?_, trivial⟩
  refine LoopK.intro (fun p : List RD × Nat => ⟨85, [(0, .pb 0 0), (1, vb false), (4, .pb 1 0), (5, .pb 2 0), (6, vi np), (7, vi p.1.length)], [diceA l p.2, [.any, .any, .any, .any, .any, .any, .any, .any, .any, .any], [vi 1, .sl 704 1 ((statesL.take ns).map vStr), .sl 1024 1 ((placesL.take np).map vStr), .nil, .nil, vi 0, vi 0, .sl 4992 14 (p.1.map ruleN), vi 0, .nil]] ++ Rk 14 p.1.length⟩)
    (fun p => 3 - p.1.length) (fun p => p.1.length ≤ 3 ∧ p.1.map RD.name = ruleNames.take p.1.length ∧ (∀ r ∈ p.1, DealR ns np r) ∧ p.2 ≤ l.length) ([], pickA l (pickA l at_)) ⟨by simp, rfl, by simp, hp2⟩ ?_ ?_
  · simp only [go_sem, List.length_nil, Rk, List.replicate_zero, List.append_nil, List.map_nil]
  rintro ⟨rules, at1⟩ ⟨h1, h2, h3, h4⟩
  simp only at h1 h2 h3 h4
  have hpk := pickV_lt (l := l) (at_ := at1) (show (1 : Int) ≤ 3 by omega)
  obtain ⟨k, ek, hk1, hk2⟩ : ∃ k : Nat, 1 + pickV l at1 3 = k ∧ 1 ≤ k ∧ k ≤ 3 := ⟨(1 + pickV l at1 3).toNat, by omega, by omega, by omega⟩
  have hw3 : IntKind.i64.wrap (1 + pickV l at1 3) = k := by rw [wrap_in (by omega) (by omega), ek]
  simp only [go_sem, List.cons_append, List.nil_append]
  refine CallU.boxes (i := 0) (is := []) (bx0 := [diceA l at1]) (con_pickF l at1 3 hs h4 (by omega)) (by simp only [go_sem]) (by simp only [go_sem]) (by simp only [go_sem]) (by simp only [go_sem]) (by simp only [go_sem]) ?_
  rintro r b ⟨rfl, rfl⟩
  have h5 := pickA_le h4
  generalize pickA l at1 = at2 at h5
  by_cases h : rules.length < k
  · simp only [go_sem, hw3, h]
    obtain ⟨i, hi⟩ : ∃ i, i = rules.length := ⟨_, rfl⟩
    rw [← hi]
    have : i = 0 ∨ i = 1 ∨ i = 2 := by omega
    have hp3 := pickA_le h5
    have hp4 := pickA_le hp3
    have hp5 := rollA_le hp4 np
    have hs1 := rollS_lt (l := l) (at_ := at2) hns1
    have hs2 := rollS_lt (l := l) (at_ := pickA l at2) hns1
    have e1 := con_intsF l (pickA l (pickA l at2)) np 2 hs hp4 (by omega) (by omega)
    have e2 := con_intsF l (rollA l (pickA l (pickA l at2)) np) np 2 hs hp5 (by omega) (by omega)
    have hrep : List.replicate 14 AV.any = [.any, .any, .any, .any, .any, .any, .any, .any, .any, .any, .any, .any, .any, .any] := rfl
    rcases this with rfl | rfl | rfl
    · have hr : DealR ns np (bareR ruleNames[0]! (rollS l at2 ns) (rollS l (pickA l at2) ns) (rollV l (pickA l (pickA l at2)) 2 np) (rollV l (rollA l (pickA l (pickA l at2)) np) 2 np) []) :=
        ⟨rfl, ⟨by show (0 : Int) ≤ (rollS l at2 ns : Int); omega, by show (rollS l at2 ns : Int) < ns; omega⟩, ⟨by show (0 : Int) ≤ (rollS l (pickA l at2) ns : Int); omega, by show (rollS l (pickA l at2) ns : Int) < ns; omega⟩, ⟨rollV_len np, rollV_low (by omega) np⟩, ⟨rollV_len np, rollV_low (by omega) np⟩⟩
      have hln : (rules ++ [bareR ruleNames[0]! (rollS l at2 ns) (rollS l (pickA l at2) ns) (rollV l (pickA l (pickA l at2)) 2 np) (rollV l (rollA l (pickA l (pickA l at2)) np) 2 np) []]).length = 1 := by rw [List.length_append, ← hi]; rfl
      have hnm : ruleNames[0]! = ⟨#[114]⟩ := rfl
      simp only [Rk, List.replicate]
      refine DrawK.news0 [(21, 3)] [14] [(31, 33)] 0 [8, 13, 16, 19] [] 22 (.one 22 .done) none (diceA l at2) mixed (by kernel_rfl) (by kernel_rfl) (by kernel_rfl) (by simp only [go_sem]) (by simp only [go_sem]) ⟨by simp only [go_sem], by simp only [go_sem]⟩ ⟨by simp only [go_sem], by simp only [go_sem]⟩ ?_
      simp only [go_sem, List.length_map, lst]
      refine EffK.mk (con_pickF l at2 ns hs h5 (by omega)) (by simp only [go_sem]) (by simp only [go_sem]) (by simp only [go_sem]) (by simp only [go_sem]) ?_
      simp only [go_sem, List.length_map, lst, hs1.2]
      refine EffK.mk (con_pickF l (pickA l at2) ns hs hp3 (by omega)) (by simp only [go_sem]) (by simp only [go_sem]) (by simp only [go_sem]) (by simp only [go_sem]) ?_
      simp only [go_sem, hs2.2]
      refine EffK.mk e1 (by simp only [go_sem]) (by simp only [go_sem]) (by simp only [go_sem]) (by simp only [go_sem]) ?_
      simp only [go_sem]
      refine EffK.mk e2 (by simp only [go_sem]) (by simp only [go_sem]) (by simp only [go_sem]) (by simp only [go_sem]) ?_
      simp only [go_sem, hrep, ← hi]
      refine ⟨⟨by unfold roomFor; omega, ?_⟩, trivial⟩
      refine roundK.intro (rules ++ [bareR ruleNames[0]! (rollS l at2 ns) (rollS l (pickA l at2) ns) (rollV l (pickA l (pickA l at2)) 2 np) (rollV l (rollA l (pickA l (pickA l at2)) np) 2 np) []], rollA l (rollA l (pickA l (pickA l at2)) np) np) ⟨by rw [hln]; omega, ?_, fun x hx => ?_, rollA_le hp5 np⟩ (by show 3 - (rules ++ [_]).length < 3 - rules.length; rw [hln]; omega) ?_
      · rw [hln, List.map_append, h2, ← hi]; rfl
      · rcases List.mem_append.1 hx with hx | hx
        · exact h3 x hx
        · rw [List.mem_singleton] at hx; subst hx; exact hr
      · simp only [go_sem, hln, List.replicate, List.map_append, List.map_cons, List.map_nil]
        exact ⟨leV_int rfl, by rw [hnm]; exact leV_refl _⟩
    · have hr : DealR ns np (bareR ruleNames[1]! (rollS l at2 ns) (rollS l (pickA l at2) ns) (rollV l (pickA l (pickA l at2)) 2 np) (rollV l (rollA l (pickA l (pickA l at2)) np) 2 np) []) :=
        ⟨rfl, ⟨by show (0 : Int) ≤ (rollS l at2 ns : Int); omega, by show (rollS l at2 ns : Int) < ns; omega⟩, ⟨by show (0 : Int) ≤ (rollS l (pickA l at2) ns : Int); omega, by show (rollS l (pickA l at2) ns : Int) < ns; omega⟩, ⟨rollV_len np, rollV_low (by omega) np⟩, ⟨rollV_len np, rollV_low (by omega) np⟩⟩
      have hln : (rules ++ [bareR ruleNames[1]! (rollS l at2 ns) (rollS l (pickA l at2) ns) (rollV l (pickA l (pickA l at2)) 2 np) (rollV l (rollA l (pickA l (pickA l at2)) np) 2 np) []]).length = 2 := by rw [List.length_append, ← hi]; rfl
      have hnm : ruleNames[1]! = ⟨#[115]⟩ := rfl
      simp only [Rk, List.replicate]
      refine DrawK.news0 [(21, 4)] [14] [(31, 33)] 0 [8, 13, 16, 19] [] 22 (.one 22 .done) none (diceA l at2) mixed (by kernel_rfl) (by kernel_rfl) (by kernel_rfl) (by simp only [go_sem]) (by simp only [go_sem]) ⟨by simp only [go_sem], by simp only [go_sem]⟩ ⟨by simp only [go_sem], by simp only [go_sem]⟩ ?_
      simp only [go_sem, List.length_map, lst]
      refine EffK.mk (con_pickF l at2 ns hs h5 (by omega)) (by simp only [go_sem]) (by simp only [go_sem]) (by simp only [go_sem]) (by simp only [go_sem]) ?_
      simp only [go_sem, List.length_map, lst, hs1.2]
      refine EffK.mk (con_pickF l (pickA l at2) ns hs hp3 (by omega)) (by simp only [go_sem]) (by simp only [go_sem]) (by simp only [go_sem]) (by simp only [go_sem]) ?_
      simp only [go_sem, hs2.2]
      refine EffK.mk e1 (by simp only [go_sem]) (by simp only [go_sem]) (by simp only [go_sem]) (by simp only [go_sem]) ?_
      simp only [go_sem]
      refine EffK.mk e2 (by simp only [go_sem]) (by simp only [go_sem]) (by simp only [go_sem]) (by simp only [go_sem]) ?_
      simp only [go_sem, hrep, ← hi]
      refine ⟨⟨by unfold roomFor; omega, ?_⟩, trivial⟩
      refine roundK.intro (rules ++ [bareR ruleNames[1]! (rollS l at2 ns) (rollS l (pickA l at2) ns) (rollV l (pickA l (pickA l at2)) 2 np) (rollV l (rollA l (pickA l (pickA l at2)) np) 2 np) []], rollA l (rollA l (pickA l (pickA l at2)) np) np) ⟨by rw [hln]; omega, ?_, fun x hx => ?_, rollA_le hp5 np⟩ (by show 3 - (rules ++ [_]).length < 3 - rules.length; rw [hln]; omega) ?_
      · rw [hln, List.map_append, h2, ← hi]; rfl
      · rcases List.mem_append.1 hx with hx | hx
        · exact h3 x hx
        · rw [List.mem_singleton] at hx; subst hx; exact hr
      · simp only [go_sem, hln, List.replicate, List.map_append, List.map_cons, List.map_nil]
        exact ⟨leV_int rfl, by rw [hnm]; exact leV_refl _⟩
    · have hr : DealR ns np (bareR ruleNames[2]! (rollS l at2 ns) (rollS l (pickA l at2) ns) (rollV l (pickA l (pickA l at2)) 2 np) (rollV l (rollA l (pickA l (pickA l at2)) np) 2 np) []) :=
        ⟨rfl, ⟨by show (0 : Int) ≤ (rollS l at2 ns : Int); omega, by show (rollS l at2 ns : Int) < ns; omega⟩, ⟨by show (0 : Int) ≤ (rollS l (pickA l at2) ns : Int); omega, by show (rollS l (pickA l at2) ns : Int) < ns; omega⟩, ⟨rollV_len np, rollV_low (by omega) np⟩, ⟨rollV_len np, rollV_low (by omega) np⟩⟩
      have hln : (rules ++ [bareR ruleNames[2]! (rollS l at2 ns) (rollS l (pickA l at2) ns) (rollV l (pickA l (pickA l at2)) 2 np) (rollV l (rollA l (pickA l (pickA l at2)) np) 2 np) []]).length = 3 := by rw [List.length_append, ← hi]; rfl
      have hnm : ruleNames[2]! = ⟨#[116]⟩ := rfl
      simp only [Rk, List.replicate]
      refine DrawK.news0 [(21, 5)] [14] [(31, 33)] 0 [8, 13, 16, 19] [] 22 (.one 22 .done) none (diceA l at2) mixed (by kernel_rfl) (by kernel_rfl) (by kernel_rfl) (by simp only [go_sem]) (by simp only [go_sem]) ⟨by simp only [go_sem], by simp only [go_sem]⟩ ⟨by simp only [go_sem], by simp only [go_sem]⟩ ?_
      simp only [go_sem, List.length_map, lst]
      refine EffK.mk (con_pickF l at2 ns hs h5 (by omega)) (by simp only [go_sem]) (by simp only [go_sem]) (by simp only [go_sem]) (by simp only [go_sem]) ?_
      simp only [go_sem, List.length_map, lst, hs1.2]
      refine EffK.mk (con_pickF l (pickA l at2) ns hs hp3 (by omega)) (by simp only [go_sem]) (by simp only [go_sem]) (by simp only [go_sem]) (by simp only [go_sem]) ?_
      simp only [go_sem, hs2.2]
      refine EffK.mk e1 (by simp only [go_sem]) (by simp only [go_sem]) (by simp only [go_sem]) (by simp only [go_sem]) ?_
      simp only [go_sem]
      refine EffK.mk e2 (by simp only [go_sem]) (by simp only [go_sem]) (by simp only [go_sem]) (by simp only [go_sem]) ?_
      simp only [go_sem, hrep, ← hi]
      refine ⟨⟨by unfold roomFor; omega, ?_⟩, trivial⟩
      refine roundK.intro (rules ++ [bareR ruleNames[2]! (rollS l at2 ns) (rollS l (pickA l at2) ns) (rollV l (pickA l (pickA l at2)) 2 np) (rollV l (rollA l (pickA l (pickA l at2)) np) 2 np) []], rollA l (rollA l (pickA l (pickA l at2)) np) np) ⟨by rw [hln]; omega, ?_, fun x hx => ?_, rollA_le hp5 np⟩ (by show 3 - (rules ++ [_]).length < 3 - rules.length; rw [hln]; omega) ?_
      · rw [hln, List.map_append, h2, ← hi]; rfl
      · rcases List.mem_append.1 hx with hx | hx
        · exact h3 x hx
        · rw [List.mem_singleton] at hx; subst hx; exact hr
      · simp only [go_sem, hln, List.replicate, List.map_append, List.map_cons, List.map_nil]
        exact ⟨leV_int rfl, by rw [hnm]; exact leV_refl _⟩
  · simp only [go_sem, hw3, h]
    refine CallU.boxes (i := 0) (is := []) (bx0 := [diceA l at2]) (con_intsF l at2 np 3 hs h5 (by omega) (by omega)) (by simp only [go_sem]) (by simp only [go_sem]) (by simp only [go_sem]) (by simp only [go_sem]) (by simp only [go_sem]) ?_
    rintro r b ⟨rfl, rfl⟩
    simp only [go_sem]
    have hcf : Con Tryz.prog 21 [vi 0, vs 0 (rollV l at2 3 np)] [] fun r _ => r = cfgN 2 0 (rollV l at2 3 np) := con_config28 0 (rollV l at2 3 np) (by rw [rollV_len]; omega)
    refine CallU.free hcf (by simp only [go_sem]) (by simp only [go_sem]) ?_
    rintro r b rfl
    simp only [go_sem]
    have hge : 1 ≤ rules.length := by omega
    exact ⟨ns, np, rules, rollV l at2 3 np, rollA l at2 np, ⟨⟨hns1, hns2⟩, ⟨hnp1, hnp2⟩, ⟨hge, h1⟩, h2, h3, ⟨rollV_len np, rollV_low (by omega) np⟩⟩, rollA_le h5 np, rfl, rfl⟩
end Go.AM

/-! ## CnB -/
namespace Go.AM
open Go Go.Proofs Go.RowKit

theorem deal_names {ns np k : Nat} (h1 : 1 ≤ ns ∧ ns ≤ 2) (h2 : 1 ≤ np ∧ np ≤ 2) (h3 : 1 ≤ k ∧ k ≤ 3) : namesB (statesL.take ns ++ placesL.take np ++ [] ++ ruleNames.take k) = true := by
  obtain rfl | rfl : ns = 1 ∨ ns = 2 := by omega
  all_goals obtain rfl | rfl : np = 1 ∨ np = 2 := by omega
  all_goals obtain rfl | rfl | rfl : k = 1 ∨ k = 2 ∨ k = 3 := by omega
  all_goals decide +kernel
theorem states_len {ns : Nat} (h : ns ≤ 2) : (statesL.take ns).length = ns := by rw [List.length_take]; simp only [statesL, List.length_cons, List.length_nil]; omega
theorem places_len {np : Nat} (h : np ≤ 2) : (placesL.take np).length = np := by rw [List.length_take]; simp only [placesL, List.length_cons, List.length_nil]; omega
theorem deal_rule {ns np : Nat} {r : RD} (h : DealR ns np r) : ruleB ns np r = true ∧ bareB r = true ∧ stillB r = true := by
  have h0 := h.thin
  unfold ThinR at h0
  have hmv : r.move = [] := by rw [h0]
  refine ⟨?_, by rw [h0]; rfl, by rw [h0]; rfl⟩
  unfold ruleB changesB movesB smallB indexB betweenB
  rw [hmv]
  simp only [Bool.and_eq_true, decide_eq_true_eq, List.all_eq_true, Bool.or_eq_true]
  have hs := h.src; have hd := h.dst
  refine ⟨⟨⟨⟨hd.1, hd.2⟩, ⟨hs.1, hs.2⟩⟩, ⟨⟨⟨h.need.1, h.give.1⟩, fun x hx => ?_⟩, fun x hx => ?_⟩⟩, .inl rfl⟩
  · have := h.need.2 x hx; omega
  · have := h.give.2 x hx; omega
theorem deal_conf {ns np : Nat} {rules : List RD} {v0 : List Int} (h : DealM ns np rules v0) {s : Nat} {v : List Int} (hs : s < ns) (hl : v.length = np) (hv : ∀ x ∈ v, 0 ≤ x ∧ x ≤ 1048576) : GoodC (dealM ns np rules v0) s v :=
  ⟨by show s < (statesL.take ns).length; rw [states_len h.hns.2]; exact hs, by show v.length = (placesL.take np).length; rw [places_len h.hnp.2]; exact hl, hv⟩
theorem deal_plain {ns np : Nat} {rules : List RD} {v0 : List Int} (h : DealM ns np rules v0) : PlainM (dealM ns np rules v0) 0 v0 := by
  have l1 : (dealM ns np rules v0).states.length = ns := states_len h.hns.2
  have l2 : (dealM ns np rules v0).places.length = np := places_len h.hnp.2
  have h1 := h.hns; have h2 := h.hnp; have h3 := h.len
  have hc : GoodC (dealM ns np rules v0) 0 v0 := deal_conf h (by omega) h.start.1 fun x hx => by have := h.start.2 x hx; omega
  refine ⟨⟨rfl, by rw [l1]; omega, by rw [l2]; omega, by show rules.length ≤ 12; omega, rfl, rfl, rfl, rfl, ?_, fun r hr => ?_, ?_⟩, ?_, rfl, hc⟩
  · show namesB (statesL.take ns ++ placesL.take np ++ [] ++ rules.map RD.name) = true
    rw [h.names]; exact deal_names h1 h2 h3
  · rw [l1, l2]
    have := deal_rule (h.rules r hr)
    exact ⟨this.1, this.2.1⟩
  · exact hc.conf
  · show rules.all stillB = true
    rw [List.all_eq_true]
    exact fun r hr => (deal_rule (h.rules r hr)).2.2
theorem deal_thin {ns np : Nat} {rules : List RD} {v0 : List Int} (h : DealM ns np rules v0) : ∀ r ∈ (dealM ns np rules v0).rules, ThinR r := fun r hr => (h.rules r hr).thin

/-- a model of the dice, never written again -/
theorem con_Counter (l : List Int) (at_ : Nat) (hs : Seeds l) (ha : at_ ≤ l.length) :
    Con Tryz.prog 15 [.pb 0 0, vb false] [diceA l at_]
    fun r b => ∃ (ns np : Nat) (rules : List RD) (v0 : List Int) (at' : Nat), DealM ns np rules v0 ∧ at' ≤ l.length ∧ b = [diceA l at'] ∧ r = vM (dealM ns np rules v0) :=
  ((con_counter l at_ hs ha).freezeB fun _ => true).weak fun r b ⟨r1, b1, ⟨ns, np, rules, v0, at1, hd, h1, h2, h3⟩, h4, h5⟩ => by
    subst h2; subst h3; subst h4; subst h5
    exact ⟨_, ⟨ns, np, rules, v0, at1, hd, h1, rfl, rfl⟩, model_le (m := dealM ns np rules v0) (deal_plain hd).good (deal_thin hd) rfl⟩
/-- a configuration of the dice, never written again -/
theorem con_ConfigC (l : List Int) (at_ : Nat) (m : MD) (hs : Seeds l) (ha : at_ ≤ l.length) (hk : m.kind = 1) (h1 : 1 ≤ m.states.length ∧ m.states.length ≤ 8) (h2 : 1 ≤ m.places.length ∧ m.places.length ≤ 6) :
    Con Tryz.prog 38 [.pb 0 0, vM m] [diceA l at_]
    fun r b => r = vV (cfgC (rollS l at_ m.states.length) (rollV l (pickA l at_) 3 m.places.length)) ∧ b = [diceA l (rollA l (pickA l at_) m.places.length)] :=
  ((con_Config l at_ m hs ha hk h1 h2).freezeB fun _ => true).weak fun r b ⟨r1, b1, ⟨h3, h4⟩, h5, h6⟩ => by
    subst h3; subst h4; subst h5; subst h6
    exact ⟨_, ⟨rfl, rfl⟩, cfg_le _ _⟩
end Go.AM

/-! ## CnC -/
namespace Go.AM
open Go Go.Proofs Go.RowKit

/-! ### values modulo a number -/
def InMod (mod : Int) (v : List Int) : Prop := ∀ s : Nat, v[s]! = omegaI ∨ (0 ≤ v[s]! ∧ v[s]! < mod)
theorem flow_mod {mod : Int} {c : List Int} {r : RD} {v : List Int} (hm : 0 < mod) (hy : r.dst.toNat < v.length) (h : InMod mod v) : InMod mod (flowF mod c r v).2.2 := by
  unfold flowF
  split
  · exact h
  · split
    · intro s
      show (v.set r.dst.toNat (nextF mod c r v))[s]! = omegaI ∨ 0 ≤ (v.set r.dst.toNat (nextF mod c r v))[s]! ∧ (v.set r.dst.toNat (nextF mod c r v))[s]! < mod
      rw [set_bang hy]
      split
      · right
        unfold nextF
        rw [if_pos hm, restF_emod hm]
        exact ⟨Int.emod_nonneg _ (by omega), Int.emod_lt_of_pos _ hm⟩
      · exact h s
    · split <;> exact h
theorem begin_mod {mod f0 : Int} {ns : Nat} (hns : 0 < ns) (hm : 0 < mod) : InMod mod (beginF mod ns f0) := fun s => by
  by_cases hs : s < ns
  · cases s with
    | zero =>
      right
      rw [begin_zero hns]
      unfold firstF
      rw [if_pos hm, restF_emod hm]
      exact ⟨Int.emod_nonneg _ (by omega), Int.emod_lt_of_pos _ hm⟩
    | succ s => left; exact begin_succ hns hs
  · have : (beginF mod ns f0)[s]! = 0 := by rw [getElem!_neg _ s (by rw [begin_len]; exact hs)]; rfl
    rw [this]; right; omega
theorem mem_bangS {l : List Int} {x : Int} (h : x ∈ l) : ∃ s : Nat, l[s]! = x := by
  obtain ⟨i, hi, e⟩ := List.getElem_of_mem h
  exact ⟨i, by rw [getElem!_pos l i hi, e]⟩
theorem values_mod {mod : Int} {w : List Int} (hm : 0 < mod) (h : InMod mod w) : valuesB mod w = true := by
  unfold valuesB
  simp only [Bool.not_eq_true', List.any_eq_false]
  intro x hx
  obtain ⟨s, rfl⟩ := mem_bangS hx
  unfold badV lowF highF
  rw [if_pos hm, if_pos hm]
  rcases h s with h | h
  · rw [h, show (omegaI != 1099511627776) = false from rfl, Bool.false_and]; exact Bool.false_ne_true
  · simp only [Bool.and_eq_true, Bool.or_eq_true, decide_eq_true_eq, not_and]
    intro _; omega
theorem values_zero {w : List Int} (h : InB 1099511627775 w) : valuesB 0 w = true := by
  unfold valuesB
  simp only [Bool.not_eq_true', List.any_eq_false]
  intro x hx
  obtain ⟨s, rfl⟩ := mem_bangS hx
  unfold badV lowF highF
  rw [if_neg (by omega), if_neg (by omega)]
  rcases h s with h | h
  · rw [h, show (omegaI != 1099511627776) = false from rfl, Bool.false_and]; exact Bool.false_ne_true
  · simp only [Bool.and_eq_true, Bool.or_eq_true, decide_eq_true_eq, not_and]
    intro _; omega

section
variable {ns np : Nat} {rules : List RD} {v0 c : List Int} {mod : Int}
theorem deal_in (hd : DealM ns np rules v0) : RulesIn ns rules := fun r hr => by
  have := (hd.rules r hr).dst; omega
theorem sum_deal (hd : DealM ns np rules v0) (hc : c.length = np) (h4 : SmallI 4 c) {v : List Int} (hv : SmallI 1048576 v) : -25165824 ≤ sumF c v ∧ sumF c v ≤ 25165824 := by
  have := sum_small h4 hv
  have := hd.hnp
  omega
theorem start_small (hd : DealM ns np rules v0) : SmallI 1048576 v0 := fun x hx => by have := hd.start.2 x hx; omega
/-- what is found is closed -/
theorem found_closed (hd : DealM ns np rules v0) (hc : c.length = np) (h4 : SmallI 4 c) (hm : ModOk mod) {w : List Int} (h : potR mod c rules ns v0 = some w) :
    w.length = ns ∧ valuesB mod w = true ∧ closedF rules 0 v0 ⟨c, mod, w⟩ = 0 := by
  have hns : 0 < ns := by have := hd.hns; omega
  have hm0 : 0 ≤ mod := by unfold ModOk at hm; omega
  have hs := sum_deal hd hc h4 (start_small hd)
  have hE : ∀ r ∈ rules, -50331648 ≤ effectF c r ∧ effectF c r ≤ 50331648 := fun r hr => effect_small (rule_fine (deal_rule (hd.rules r hr)).1) (by have := hd.hnp; omega) h4
  unfold potR at h
  have hb := pot_bnd (by omega) (deal_in hd) hE (begin_len mod ns (sumF c v0)) (show mod ≤ 25165824 by unfold ModOk at hm; omega) (begin_bnd hns hm hs) h
  have hin := pot_inv (P := fun v => v.length = ns ∧ (0 < mod → InMod mod v)) (fun r hr v ⟨g1, g2⟩ => ⟨by rw [flow_len, g1], fun hp => flow_mod hp (by rw [g1]; exact deal_in hd r hr) (g2 hp)⟩) ⟨begin_len mod ns (sumF c v0), fun hp => begin_mod hns hp⟩ h
  refine ⟨hb.1, ?_, ?_⟩
  · rcases hm with rfl | hm
    · refine values_zero (hb.2.mono ?_)
      have := hd.len; have := hd.hns
      have h5 : ((ns + 1 : Nat) : Int) * (rules.length * 50331648) ≤ 3 * (3 * 50331648) := Int.mul_le_mul (by omega) (by omega) (by omega) (by omega)
      omega
    · exact values_mod (by omega) (hin.2 (by omega))
  · unfold closedF
    have e1 : holdsF ⟨c, mod, w⟩ 0 v0 = true := pot_start hns (deal_in hd) hm0 (by unfold ModOk at hm; unfold omegaI; omega) (by show sumF c v0 < 1099511627776; omega) h
    have e2 : rules.all (keepsF ⟨c, mod, w⟩) = true := List.all_eq_true.2 fun r hr => pot_keeps hm0 h r hr
    rw [e1, e2]; rfl
theorem closed_zero {b : AtomD} (h : closedF rules 0 v0 b = 0) : holdsF b 0 v0 = true ∧ ∀ r ∈ rules, keepsF b r = true := by
  unfold closedF at h
  split at h
  · rename_i h1
    split at h
    · rename_i h2; exact ⟨h1, List.all_eq_true.1 h2⟩
    · cases h
  · cases h
/-- what is found is the strongest -/
theorem found_strongest {b : AtomD} (hd : DealM ns np rules v0) (hbc : b.coefs.length = np) (hbl : b.values.length = ns) (hm : ModOk b.mod) (hb : closedF rules 0 v0 b = 0) {w : List Int}
    (h : potR b.mod b.coefs rules ns v0 = some w) (s : Nat) (v : List Int) (hf : holdsF ⟨b.coefs, b.mod, w⟩ s v = true) : holdsF b s v = true := by
  have hns : 0 < ns := by have := hd.hns; omega
  have hm0 : 0 ≤ b.mod := by unfold ModOk at hm; omega
  obtain ⟨h1, h2⟩ := closed_zero hb
  exact follows_above (a := ⟨b.coefs, b.mod, w⟩) rfl (pot_above hns hbl (deal_in hd) hm0 h1 h2 h s) hf
theorem first_begin {b : AtomD} {f0 : Int} (hm : 0 ≤ b.mod) (hf : f0 < omegaI) (hm2 : b.mod ≤ omegaI) (h : followsF b f0 0 = true) : Q1 b (firstF b.mod f0) := by
  have h1 := first_lt hf hm2
  unfold followsF at h
  split at h
  · cases h
  · rename_i h0
    refine ⟨by omega, h0, ?_⟩
    unfold firstF
    split
    · rename_i hz
      rw [if_pos hz] at h
      rw [if_neg (by omega)]
      exact of_decide_eq_true h
    · rename_i hz
      rw [if_neg hz] at h
      rw [if_pos (by omega)]
      exact (beq_iff_eq.1 h).symm
theorem next_small {mod : Int} {c : List Int} {r : RD} {v : List Int} (hm : ModOk mod) (hv : v[r.src.toNat]! ≤ 25165824) (hE : effectF c r ≤ 50331648) : nextF mod c r v ≠ omegaI := by
  unfold nextF omegaI
  split
  · rename_i hp
    rw [restF_emod hp]
    have := Int.emod_lt_of_pos (v[r.src.toNat]! + effectF c r) hp
    unfold ModOk at hm; omega
  · omega
/-- where a closed atom is, one is found -/
theorem found_some {b : AtomD} (hd : DealM ns np rules v0) (hbc : b.coefs.length = np) (h4 : SmallI 4 b.coefs) (hbl : b.values.length = ns) (hm : ModOk b.mod) (hb : closedF rules 0 v0 b = 0) : ∃ w, potR b.mod b.coefs rules ns v0 = some w := by
  have hm0 : 0 ≤ b.mod := by unfold ModOk at hm; omega
  have hm2 : b.mod ≤ omegaI := by unfold ModOk at hm; unfold omegaI; omega
  obtain ⟨h1, h2⟩ := closed_zero hb
  have hs := sum_deal hd hbc h4 (start_small hd)
  have hq := first_begin hm0 (by unfold omegaI; omega) hm2 h1
  have hE : ∀ r ∈ rules, -50331648 ≤ effectF b.coefs r ∧ effectF b.coefs r ≤ 50331648 := fun r hr => effect_small (rule_fine (deal_rule (hd.rules r hr)).1) (by have := hd.hnp; omega) h4
  have hfb : firstF b.mod (sumF b.coefs v0) ≤ 25165824 := by
    unfold firstF
    split
    · rename_i hp
      rw [restF_emod hp]
      have := Int.emod_lt_of_pos (sumF b.coefs v0) hp
      unfold ModOk at hm; omega
    · omega
  unfold potR
  obtain rfl | rfl : ns = 1 ∨ ns = 2 := by have := hd.hns; omega
  · refine ⟨_, pot_one hm0 hbl hq fun r hr => ?_⟩
    have g1 := (hd.rules r hr).src; have g2 := (hd.rules r hr).dst
    exact ⟨by omega, by omega, h2 r hr⟩
  · refine pot_two (u := omegaI) hm0 hbl hq (.inl rfl) fun r hr => ?_
    have g1 := (hd.rules r hr).src; have g2 := (hd.rules r hr).dst
    refine ⟨⟨by omega, by omega⟩, h2 r hr, fun u hu => ?_⟩
    refine next_small hm ?_ (hE r hr).2
    rw [hu]; exact hfb
end
end Go.AM

/-! ## CnD -/
namespace Go.AM
open Go Go.Proofs Go.RowKit

theorem last_modify {vals : List Int} {x y : Int} : (List.map vi vals ++ [AV.sc (.int .i64 x)]).modify vals.length (updElem 0 [.sc (.int .i64 y)]) = List.map vi vals ++ [AV.sc (.int .i64 y)] := by
  have := modify_vi (Z := vals ++ [x]) (q := vals.length) (x := y)
  rw [List.set_append_right _ _ (Nat.le_refl _), Nat.sub_self, List.set_cons_zero, List.map_append, List.map_append] at this
  exact this
theorem last_at {vals : List Int} {x : Int} : (List.map vi vals ++ [AV.sc (.int .i64 x)])[vals.length]? = some (AV.sc (.int .i64 x)) := by
  rw [List.getElem?_append_right (by simp), List.length_map, Nat.sub_self]; rfl
theorem last_len {vals : List Int} {x : Int} : (List.map vi vals ++ [AV.sc (.int .i64 x)]).length = vals.length + 1 := by simp
set_option maxRecDepth 100000 in
set_option maxHeartbeats 8000000 in
theorem con_strongestLaw (l : List Int) (hl : l.length ≤ 9223372036854775807) (hx : ∀ x ∈ l, 0 ≤ x ∧ x < 256) :
    Con Tryz.prog 8 [.sl 0 1 (l.map vu)] [] fun r _ => r = vb true := by
  refine Con.intro Tryz.func8 rfl Tryz.ntmps8 Tryz.results8 (by kernel_rfl) (by simp) 0 (by simp) ?_
  have hs : Seeds (l.take 200) := ⟨by rw [List.length_take]; omega, fun x h => hx x (List.mem_of_mem_take h)⟩
  simp only [go_sem]
  refine CallU.free con_sane32 (by simp only [go_sem]) (by simp only [go_sem]) ?_
  rintro r bx rfl
  simp only [go_sem]
  refine CallU.news (bx0 := []) (con_new l hl) (by simp only [go_sem]) (by simp only [go_sem]) (by simp only [go_sem]) (by simp only [go_sem]) (by simp only [go_sem]) ?_
  rintro r bx ⟨rfl, rfl⟩
  generalize l.take 200 = l at hs
  simp only [go_sem]
  refine CallU.boxes (i := 0) (is := []) (bx0 := [diceA l 0]) (con_Counter l 0 hs (by omega)) (by simp only [go_sem]) (by simp only [go_sem]) (by simp only [go_sem]) (by simp only [go_sem]) (by simp only [go_sem]) ?_
  rintro r bx ⟨ns, np, rules, v0, at1, hd, ha1, rfl, rfl⟩
  have hP := deal_plain hd
  have hns := hd.hns
  have hnp := hd.hnp
  have l1 : (dealM ns np rules v0).states.length = ns := states_len hns.2
  have l2 : (dealM ns np rules v0).places.length = np := places_len hnp.2
  have ek : (dealM ns np rules v0).kind = 1 := rfl
  have er : (dealM ns np rules v0).rules = rules := rfl
  generalize dealM ns np rules v0 = m at hP l1 l2 ek er
  have hp2 := pickA_le ha1
  have hp3 := pickA_le hp2
  simp only [go_sem, vM, cM, vss]
  refine DrawK.effs0 0 [1, 4] [] 10 (.one 10 (.one 11 .done)) none (diceA l at1) mixed (by kernel_rfl) (by kernel_rfl) (by simp only [go_sem]) (by simp only [go_sem]) ?_
  simp only [go_sem]
  refine EffK.mk (con_pickF l at1 5 hs ha1 (by omega)) (by simp only [go_sem]) (by simp only [go_sem]) (by simp only [go_sem]) (by simp only [go_sem]) ?_
  have q1 := pickV_lt (l := l) (at_ := at1) (show (1 : Int) ≤ 5 by omega)
  have q2 := pickV_lt (l := l) (at_ := pickA l at1) (show (1 : Int) ≤ 5 by omega)
  have w1 : IntKind.i64.wrap (pickV l at1 5 - 2) = pickV l at1 5 - 2 := wrap_in (by omega) (by omega)
  have w2 : IntKind.i64.wrap (pickV l (pickA l at1) 5 - 2) = pickV l (pickA l at1) 5 - 2 := wrap_in (by omega) (by omega)
  simp only [go_sem, w1]
  refine EffK.mk (con_pickF l (pickA l at1) 5 hs hp2 (by omega)) (by simp only [go_sem]) (by simp only [go_sem]) (by simp only [go_sem]) (by simp only [go_sem]) ?_
  simp only [go_sem, w2, List.length_map, l2]
  refine ⟨⟨hnp.2, ?_⟩, trivial⟩
  obtain ⟨c, hc, hcl, h4⟩ : ∃ c : List Int, List.take np [AV.sc (.int .i64 (pickV l at1 5 - 2)), AV.sc (.int .i64 (pickV l (pickA l at1) 5 - 2))] = c.map vi ∧ c.length = np ∧ SmallI 4 c := by
    refine ⟨List.take np [pickV l at1 5 - 2, pickV l (pickA l at1) 5 - 2], by rw [List.map_take]; rfl, by rw [List.length_take]; simp only [List.length_cons, List.length_nil]; omega, fun x hx => ?_⟩
    have := List.mem_of_mem_take hx
    simp only [List.mem_cons, List.not_mem_nil, or_false] at this
    rcases this with rfl | rfl <;> omega
  generalize pickA l at1 = at2 at hp2 hp3 hc q2 w2
  have hp4 := pickA_le hp3
  have q3 := pickV_lt (l := l) (at_ := pickA l at2) (show (1 : Int) ≤ 4 by omega)
  obtain ⟨X, eX, hX⟩ : ∃ X : Nat, pickV l (pickA l at2) 4 = X ∧ X < 4 := ⟨(pickV l (pickA l at2) 4).toNat, by omega, by omega⟩
  obtain ⟨mod, hg, hm⟩ : ∃ mod : Int, [AV.sc (.int .i64 0), AV.sc (.int .i64 2), AV.sc (.int .i64 3), AV.sc (.int .i64 5)][X]? = some (.sc (.int .i64 mod)) ∧ ModOk mod := by
    obtain rfl | rfl | rfl | rfl : X = 0 ∨ X = 1 ∨ X = 2 ∨ X = 3 := by omega
    · exact ⟨0, rfl, .inl rfl⟩
    · exact ⟨2, rfl, .inr ⟨by decide, by decide⟩⟩
    · exact ⟨3, rfl, .inr ⟨by decide, by decide⟩⟩
    · exact ⟨5, rfl, .inr ⟨by decide, by decide⟩⟩
  refine CallU.boxes (i := 0) (is := []) (bx0 := [diceA l (pickA l at2)]) (con_pickF l (pickA l at2) 4 hs hp3 (by omega)) (by simp only [go_sem]) (by simp only [go_sem]) (by simp only [go_sem]) (by simp only [go_sem]) (by simp only [go_sem]) ?_
  rintro r b ⟨rfl, rfl⟩
  rw [eX]
  generalize pickA l (pickA l at2) = at3 at hp4
  simp only [go_sem, hg, hX, hc]
  have hPot := con_Potential m c mod v0 hP (hcl.trans l2.symm) h4 hm
  rw [er, l1] at hPot
  cases hpo : potR mod c rules ns v0 with
  | none =>
    rw [hpo] at hPot
    refine CallU.freeze hPot (by simp only [go_sem]) (by simp only [go_sem, vM, cM, vss]) ?_
    rintro r b rfl
    simp only [go_sem, potV, List.length_map, l1]
    refine LoopK.intro (fun p : List Int × Nat => ⟨120, [(2, vb false), (3, .pb 0 0), (4, .pb 1 0), (5, vs 0 c), (6, vi mod), (7, .pb 2 0), (8, vb false), (9, vi 0), (10, .pb 3 0), (60, vi ns), (61, vi p.1.length)], [diceA l p.2, cM m, [.nil, vi 0, .nil], [vs 0 c, vi mod, vs 4416 p.1]]⟩)
      (fun p => ns - p.1.length) (fun p => p.1.length ≤ ns ∧ p.2 ≤ l.length) ([], at3) ⟨by simp, hp4⟩ ?_ ?_
    · simp only [go_sem, List.length_nil, List.map_nil, cM, vss]
    rintro ⟨vals, at4⟩ ⟨k1, k2⟩
    simp only at k1 k2
    by_cases h : vals.length < ns
    · have hw : IntKind.i64.wrap (vals.length + 1) = vals.length + 1 := wrap_in (by omega) (by omega)
      simp only [go_sem, h, cM, vss]
      refine DrawK.effs0 0 [3] [] 5 (.one 5 (.one 6 (.one 7 .done))) none (diceA l at4) mixed (by kernel_rfl) (by kernel_rfl) (by simp only [go_sem]) (by simp only [go_sem]) ?_
      simp only [go_sem]
      refine EffK.mk (con_pickF l at4 4 hs k2 (by omega)) (by simp only [go_sem]) (by simp only [go_sem]) (by simp only [go_sem]) (by simp only [go_sem]) ?_
      have hr : roomFor (vals.length + 1) 8 := by unfold roomFor; omega
      have k3 := pickA_le k2
      have q4 := pickV_lt (l := l) (at_ := at4) (show (1 : Int) ≤ 4 by omega)
      generalize pickV l at4 4 = x at q4
      simp only [go_sem, hr]
      refine ⟨?_, trivial⟩
      by_cases h0 : (0 : Int) < mod
      · have hne : ¬ mod = 0 := by omega
        have w6 : IntKind.i64.wrap ((vals.length : Int) + 1 - 1) = vals.length := by rw [wrap_in (by omega) (by omega)]; omega
        have hmb := Int.emod_lt_of_pos x h0
        have hmn := Int.emod_nonneg x hne
        have hte : Int.tmod x mod = x % mod := Int.tmod_eq_emod_of_nonneg q4.1
        have hm8 : mod ≤ 8 := by unfold ModOk at hm; omega
        have w7 : IntKind.i64.wrap (x % mod) = x % mod := wrap_in (by omega) (by omega)
        have hla := last_at (vals := vals) (x := x)
        have hlm := last_modify (vals := vals) (x := x) (y := x % mod)
        have hll := last_len (vals := vals) (x := x)
        simp only [go_sem, h0, hll, w6]
        refine ⟨by omega, ?_⟩
        simp only [go_sem, hla, hlm, hne, hte, w6, hll, hw]
        refine ⟨by omega, roundK.intro (vals ++ [x % mod], pickA l at4) ⟨by simp; omega, k3⟩ (by simp; omega) ?_⟩
        simp only [go_sem, List.map_append, List.length_append, List.map_cons, List.map_nil, List.length_cons, List.length_nil]
      · simp only [go_sem, h0, hw]
        refine roundK.intro (vals ++ [x], pickA l at4) ⟨by simp; omega, k3⟩ (by simp; omega) ?_
        simp only [go_sem, List.map_append, List.length_append, List.map_cons, List.map_nil, List.length_cons, List.length_nil]
    · have e : vals.length = ns := by omega
      have hFb : FormA m ⟨c, mod, vals⟩ := ⟨hcl.trans l2.symm, h4, hm, e.trans l1.symm⟩
      have hCb := con_Closed m ⟨c, mod, vals⟩ 0 v0 hP hFb
      rw [er] at hCb
      obtain ⟨z, hz⟩ : ∃ z : Int, z = if valuesB mod vals = true then closedF rules 0 v0 ⟨c, mod, vals⟩ else 44 := ⟨_, rfl⟩
      rw [← hz] at hCb
      simp only [go_sem, h]
      refine CallU.freeze hCb (by simp only [go_sem]) (by simp only [go_sem, vM, cM, vss]) ?_
      rintro r b rfl
      by_cases hz0 : z = 0
      · have hv : valuesB mod vals = true := by
          cases hv : valuesB mod vals
          · rw [hv, hz0] at hz; cases hz
          · rfl
        rw [hv, if_pos rfl, hz0] at hz
        have hcb := hz.symm
        obtain ⟨w, hw⟩ := found_some (b := ⟨c, mod, vals⟩) hd hcl h4 e hm hcb
        rw [hpo] at hw; cases hw
      · have hzn : (z != 0) = true := bne_iff_ne.2 hz0
        simp only [go_sem, hzn]
  | some w =>
    obtain ⟨hw1, hw2, hw3⟩ := found_closed hd hcl h4 hm hpo
    rw [hpo] at hPot
    have hFa : FormA m ⟨c, mod, w⟩ := ⟨hcl.trans l2.symm, h4, hm, hw1.trans l1.symm⟩
    have hCa := con_Closed m ⟨c, mod, w⟩ 0 v0 hP hFa
    rw [er, hw3, hw2] at hCa
    refine CallU.freeze hPot (by simp only [go_sem]) (by simp only [go_sem, vM, cM, vss]) ?_
    rintro r b rfl
    simp only [go_sem, potV]
    refine CallU.freeze hCa (by simp only [go_sem]) (by simp only [go_sem, vM, cM, vss]) ?_
    rintro r b rfl
    simp only [go_sem, if_true, List.length_map, l1]
    refine LoopK.intro (fun p : List Int × Nat => ⟨120, [(2, vb false), (3, .pb 0 0), (4, .pb 1 0), (5, vs 0 c), (6, vi mod), (7, .pb 2 0), (8, vb true), (9, vi 0), (10, .pb 3 0), (60, vi ns), (61, vi p.1.length)], [diceA l p.2, cM m, [vs 0 c, vi mod, vs 0 w], [vs 0 c, vi mod, vs 4416 p.1]]⟩)
      (fun p => ns - p.1.length) (fun p => p.1.length ≤ ns ∧ p.2 ≤ l.length) ([], at3) ⟨by simp, hp4⟩ ?_ ?_
    · simp only [go_sem, List.length_nil, List.map_nil, cM, vss]
    rintro ⟨vals, at4⟩ ⟨k1, k2⟩
    simp only at k1 k2
    by_cases h : vals.length < ns
    · have hw : IntKind.i64.wrap (vals.length + 1) = vals.length + 1 := wrap_in (by omega) (by omega)
      simp only [go_sem, h, cM, vss]
      refine DrawK.effs0 0 [3] [] 5 (.one 5 (.one 6 (.one 7 .done))) none (diceA l at4) mixed (by kernel_rfl) (by kernel_rfl) (by simp only [go_sem]) (by simp only [go_sem]) ?_
      simp only [go_sem]
      refine EffK.mk (con_pickF l at4 4 hs k2 (by omega)) (by simp only [go_sem]) (by simp only [go_sem]) (by simp only [go_sem]) (by simp only [go_sem]) ?_
      have hr : roomFor (vals.length + 1) 8 := by unfold roomFor; omega
      have k3 := pickA_le k2
      have q4 := pickV_lt (l := l) (at_ := at4) (show (1 : Int) ≤ 4 by omega)
      generalize pickV l at4 4 = x at q4
      simp only [go_sem, hr]
      refine ⟨?_, trivial⟩
      by_cases h0 : (0 : Int) < mod
      · have hne : ¬ mod = 0 := by omega
        have w6 : IntKind.i64.wrap ((vals.length : Int) + 1 - 1) = vals.length := by rw [wrap_in (by omega) (by omega)]; omega
        have hmb := Int.emod_lt_of_pos x h0
        have hmn := Int.emod_nonneg x hne
        have hte : Int.tmod x mod = x % mod := Int.tmod_eq_emod_of_nonneg q4.1
        have hm8 : mod ≤ 8 := by unfold ModOk at hm; omega
        have w7 : IntKind.i64.wrap (x % mod) = x % mod := wrap_in (by omega) (by omega)
        have hla := last_at (vals := vals) (x := x)
        have hlm := last_modify (vals := vals) (x := x) (y := x % mod)
        have hll := last_len (vals := vals) (x := x)
        simp only [go_sem, h0, hll, w6]
        refine ⟨by omega, ?_⟩
        simp only [go_sem, hla, hlm, hne, hte, w6, hll, hw]
        refine ⟨by omega, roundK.intro (vals ++ [x % mod], pickA l at4) ⟨by simp; omega, k3⟩ (by simp; omega) ?_⟩
        simp only [go_sem, List.map_append, List.length_append, List.map_cons, List.map_nil, List.length_cons, List.length_nil]
      · simp only [go_sem, h0, hw]
        refine roundK.intro (vals ++ [x], pickA l at4) ⟨by simp; omega, k3⟩ (by simp; omega) ?_
        simp only [go_sem, List.map_append, List.length_append, List.map_cons, List.map_nil, List.length_cons, List.length_nil]
    · have e : vals.length = ns := by omega
      have hFb : FormA m ⟨c, mod, vals⟩ := ⟨hcl.trans l2.symm, h4, hm, e.trans l1.symm⟩
      have hCb := con_Closed m ⟨c, mod, vals⟩ 0 v0 hP hFb
      rw [er] at hCb
      obtain ⟨z, hz⟩ : ∃ z : Int, z = if valuesB mod vals = true then closedF rules 0 v0 ⟨c, mod, vals⟩ else 44 := ⟨_, rfl⟩
      rw [← hz] at hCb
      simp only [go_sem, h]
      refine CallU.freeze hCb (by simp only [go_sem]) (by simp only [go_sem, vM, cM, vss]) ?_
      rintro r b rfl
      by_cases hz0 : z = 0
      · have hv : valuesB mod vals = true := by
          cases hv : valuesB mod vals
          · rw [hv, hz0] at hz; cases hz
          · rfl
        rw [hv, if_pos rfl, hz0] at hz
        have hcb := hz.symm
        subst hz0
        simp only [go_sem]
        have hCf := con_ConfigC l at4 m hs k2 ek (by rw [l1]; omega) (by rw [l2]; omega)
        rw [l1, l2] at hCf
        obtain ⟨S, hS, hSl⟩ : ∃ S : Nat, S = rollS l at4 ns ∧ S < ns := ⟨_, rfl, (rollS_lt hns.1).1⟩
        obtain ⟨v, hv1, hv2, hv3⟩ : ∃ v : List Int, v = rollV l (pickA l at4) 3 np ∧ v.length = np ∧ ∀ x ∈ v, 0 ≤ x ∧ x ≤ 1048576 := ⟨_, rfl, rollV_len np, fun x hx => by have := rollV_low (show (0 : Int) ≤ 3 by omega) np x hx; omega⟩
        rw [← hS, ← hv1] at hCf
        have hGc : GoodC m S v := ⟨by rw [l1]; exact hSl, hv2.trans l2.symm, hv3⟩
        have hHa := con_Holds m ⟨c, mod, w⟩ 0 v0 S v hP hFa hGc
        have hHb := con_Holds m ⟨c, mod, vals⟩ 0 v0 S v hP hFb hGc
        have himp := found_strongest (b := ⟨c, mod, vals⟩) hd hcl e hm hcb hpo S v
        unfold acheckF at hHa hHb
        rw [hw2] at hHa
        rw [hv] at hHb
        refine CallU.boxes (i := 0) (is := []) (bx0 := [diceA l at4]) hCf (by simp only [go_sem]) (by simp only [go_sem]) (by simp only [go_sem]) (by simp only [go_sem]) (by simp only [go_sem]) ?_
        rintro r b ⟨rfl, rfl⟩
        have e0 := vV_eq (cfgC S v)
        simp only [go_sem, e0]
        refine CallU.freeze hHa (by simp only [go_sem]) (by simp only [go_sem, vM, cM, vss, e0]) ?_
        rintro r b rfl
        simp only [go_sem]
        refine CallU.freeze hHb (by simp only [go_sem]) (by simp only [go_sem, vM, cM, vss, e0]) ?_
        rintro r b rfl
        cases hA : holdsF ⟨c, mod, w⟩ S v
        · cases hB : holdsF ⟨c, mod, vals⟩ S v
          all_goals simp only [go_sem, Bool.true_and, if_true]
        · rw [himp hA]
          simp only [go_sem, Bool.true_and, if_true]
      · have hzn : (z != 0) = true := bne_iff_ne.2 hz0
        simp only [go_sem, hzn]
end Go.AM

/-! ## ClosedB -/
namespace Go.Proofs.YtlldkikmjeeamaaGreat
open Go.ChangeShapes Go.WideShapes Go.ChangeAt Go.RowKit Go.AM

theorem and_mk {a b : Bool} (h1 : a = true) (h2 : b = true) : (a && b) = true := by rw [h1, h2]; rfl
theorem cLaid : laidOutB Tryz.prog = true := by kernel_rfl
theorem cRowed : mapsRowed Tryz.prog = true := by kernel_rfl
theorem cHeard : Tryz.prog.stopsHeard = true := by kernel_rfl
theorem cEnter : Tryz.prog.mayEnter = true := by kernel_rfl
theorem cLifts : (Rows.invariantStrongestRow.lifted == Tryz.prog.liftsFinal) = true := by kernel_rfl
theorem invariantStrongestC0 : (Rows.invariantStrongestRow.wf (OpenSpec.ofChange Rows.invariantStrongestSpec)) = true := by kernel_rfl
theorem invariantStrongestC3 : (Tryz.f8.params.all (Tryz.prog.readableRec ·)) = true := by kernel_rfl
theorem invariantStrongestC4 : (namedTie Tryz.prog Rows.invariantStrongestRow.named Rows.invariantStrongestSpec.vars) = true := by kernel_rfl
theorem invariantStrongestC5 : ((Rows.invariantStrongestRow.stops == [])) = true := by kernel_rfl
theorem invariantStrongestC6 : ((Tryz.prog.stops == [])) = true := by kernel_rfl
theorem invariantStrongestC7 : ((Rows.invariantStrongestRow.knobs == [])) = true := by kernel_rfl
theorem invariantStrongestC8 : ((Tryz.prog.stopKnobs == [])) = true := by kernel_rfl
theorem invariantStrongestC9 : ((Rows.invariantStrongestRow.inPlace == Tryz.prog.inPlace 8)) = true := by kernel_rfl
theorem invariantStrongestC10 : ((Rows.invariantStrongestRow.unfollowed == Tryz.prog.unfollowed 8)) = true := by kernel_rfl
theorem invariantStrongestC11 : ((Rows.invariantStrongestRow.recurses == Tryz.prog.recurses 8)) = true := by kernel_rfl
theorem invariantStrongestC12 : ((Rows.invariantStrongestRow.named == Tryz.prog.varsNamed 8)) = true := by kernel_rfl
theorem invariantStrongestC13 : ((Rows.invariantStrongestRow.maps == (Tryz.f8.params.toList ++ Rows.invariantStrongestSpec.plain.varTypes Tryz.prog).any (Tryz.prog.mapsRec ·))) = true := by kernel_rfl
theorem invariantStrongestC14 : ((Rows.invariantStrongestRow.ifaces == (Tryz.f8.params.toList ++ Rows.invariantStrongestSpec.plain.varTypes Tryz.prog).any (Tryz.prog.ifacesRec ·))) = true := by kernel_rfl
theorem invariantStrongestC15 : ((Rows.invariantStrongestRow.mapsOut == Tryz.prog.mapsAmong Tryz.f8.resultTypes.toList)) = true := by kernel_rfl
theorem invariantStrongestC16 : ((Rows.invariantStrongestRow.loops == (Tryz.f8.params.toList ++ Rows.invariantStrongestSpec.plain.varTypes Tryz.prog).any (Tryz.prog.loopsFrom ·))) = true := by kernel_rfl
theorem invariantStrongestC17 : ((Rows.invariantStrongestRow.wideKeys == (Tryz.f8.params.toList ++ Rows.invariantStrongestSpec.plain.varTypes Tryz.prog ++ Tryz.f8.resultTypes.toList).any (Tryz.prog.wideKeysFrom ·))) = true := by kernel_rfl
theorem invariantStrongestC18 : (Rows.invariantStrongestSpec.vars.all (Tryz.prog.varReadable ·)) = true := by kernel_rfl
theorem invariantStrongestC19 : (Tryz.f8.resultTypes.all (fun t => Tryz.prog.readableRec t && decide (t < Tryz.prog.types.size))) = true := by kernel_rfl
theorem invariantStrongestC20 : ((Rows.invariantStrongestRow.ifacesOut == Tryz.f8.resultTypes.toList.any (Tryz.prog.ifacesRec ·))) = true := by kernel_rfl
theorem invariantStrongestC21 : ((Rows.invariantStrongestRow.loopsOut == Tryz.f8.resultTypes.toList.any (Tryz.prog.loopsFrom ·))) = true := by kernel_rfl
theorem invariantStrongestC22 : ((Rows.invariantStrongestRow.plainKeys == Tryz.prog.plainKeys)) = true := by kernel_rfl
theorem invariantStrongestC23 : (Rows.invariantStrongestRow.shortTexts.isNone) = true := by kernel_rfl
theorem invariantStrongestC27 : ((Tryz.prog.make == some Rows.invariantStrongestRow.make)) = true := by kernel_rfl
theorem invariantStrongestC28 : ((Rows.invariantStrongestRow.kinds == (if Rows.invariantStrongestRow.domain.isEmpty then [] else Tryz.f8.params.toList.map fun t => match Tryz.prog.underlying t with | some (.int k) => some k | _ => none))) = true := by kernel_rfl
theorem invariantStrongestC29 : ((Rows.invariantStrongestRow.pinned == Rows.invariantStrongestRow.pinnedBy)) = true := by kernel_rfl
theorem invariantStrongestC30 : ((Rows.invariantStrongestRow.veiled == (Tryz.f8.params.toList ++ Rows.invariantStrongestSpec.plain.varTypes Tryz.prog ++ Tryz.f8.resultTypes.toList).any (Tryz.prog.veiledRec ·))) = true := by kernel_rfl
theorem invariantStrongestC31 : (Rows.invariantStrongestRow.veiledFits Tryz.prog Tryz.f8.params.toList (Tryz.f8.params.toList ++ Rows.invariantStrongestSpec.plain.varTypes Tryz.prog ++ Tryz.f8.resultTypes.toList)) = true := by kernel_rfl
end Go.Proofs.YtlldkikmjeeamaaGreat

/-! ## ClosedBz -/
namespace Go.Proofs.YtlldkikmjeeamaaGreat
open Go.ChangeShapes Go.WideShapes Go.ChangeAt Go.RowKit Go.AM

set_option maxRecDepth 100000 in
theorem invariantStrongestClosed : joinedFacts Tryz.prog 8 Tryz.f8 Rows.invariantStrongestSpec Rows.invariantStrongestRow = true := by
  unfold joinedFacts
  exact and_mk (and_mk (and_mk (and_mk (and_mk (and_mk (and_mk (and_mk (and_mk (and_mk (and_mk (and_mk (and_mk (and_mk (and_mk (and_mk (and_mk (and_mk (and_mk (and_mk (and_mk (and_mk (and_mk (and_mk (and_mk (and_mk (and_mk (and_mk (and_mk (and_mk (and_mk invariantStrongestC0 cLaid) cRowed) invariantStrongestC3) invariantStrongestC4) invariantStrongestC5) invariantStrongestC6) invariantStrongestC7) invariantStrongestC8) invariantStrongestC9) invariantStrongestC10) invariantStrongestC11) invariantStrongestC12) invariantStrongestC13) invariantStrongestC14) invariantStrongestC15) invariantStrongestC16) invariantStrongestC17) invariantStrongestC18) invariantStrongestC19) invariantStrongestC20) invariantStrongestC21) invariantStrongestC22) invariantStrongestC23) cHeard) cEnter) cLifts) invariantStrongestC27) invariantStrongestC28) invariantStrongestC29) invariantStrongestC30) invariantStrongestC31
theorem invariantStrongestNamed : Tryz.prog.funcNamed Rows.invariantStrongestRow.func = some 8 := by kernel_rfl
end Go.Proofs.YtlldkikmjeeamaaGreat
