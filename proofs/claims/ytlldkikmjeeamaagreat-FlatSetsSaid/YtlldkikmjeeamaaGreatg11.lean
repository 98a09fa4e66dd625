/-
  Plain laws: vectors that a cycle reaches.
  Walks: FlatReaches, the whole law.
  Walks: the reference's steps of counter models: which rules can be used.
  Plain laws: doing a cycle rule by rule.
  Walks: the reference's steps of counter models: one rule.
  Walks: the reference's steps: what a rule leads to.
  Walks: FlatRuns, the whole law.
  Walks: linear sets of one period (the reference's Has).
  Walks: the linear set of a cycle (flat.Set).
  Walks: FlatSets, the whole law.
  Closed facts of rows, one by one.
  Closed facts of rows, together.
-/
import Derived.Test.YtlldkikmjeeamaaGreatg9
import Derived.Test.YtlldkikmjeeamaaGreatg10
import Derived.Test.YtlldkikmjeeamaaGreatg8
/-! ## FJ -/
namespace Go.AM

theorem ext_bang {a b : List Int} {n : Nat} (ha : a.length = n) (hb : b.length = n) (h : ∀ i, i < n → a[i]! = b[i]!) : a = b := by
  refine List.ext_getElem (by omega) fun i h1 h2 => ?_
  have := h i (by omega)
  rw [getElem!_pos a i h1, getElem!_pos b i h2] at this; exact this
theorem does_zero {nd ef v : List Int} {np : Nat} : doesB nd ef v np 0 = true := by
  rw [does_iff]
  cases h : timesP nd ef v np with
  | none => trivial
  | some n => exact timesP_low h
theorem does_mono {nd ef v : List Int} {np : Nat} {a b : Int} (h : doesB nd ef v np b = true) (hab : a ≤ b) : doesB nd ef v np a = true := by
  rw [does_iff] at *
  cases hT : timesP nd ef v np with
  | none => trivial
  | some n => rw [hT] at h; exact Int.le_trans hab h
theorem after_zero {ef v : List Int} {np : Nat} (h : v.length = np) : afterL np ef v 0 = v :=
  ext_bang (afterL_len ..) h fun i hi => by rw [afterL_at hi]; omega
theorem first_find {ef v w : List Int} {np : Nat} {k : Int} (hk : k ≠ 0) (hw : ∀ i, i < np → v[i]! + k * ef[i]! = w[i]!) : ∀ n, n ≤ np → (firstN ef v w n = 0 ∧ ∀ i, i < n → ef[i]! = 0) ∨ firstN ef v w n = k
  | 0, _ => .inl ⟨rfl, fun i hi => by omega⟩
  | n + 1, hn => by
    unfold firstN
    rcases first_find hk hw n (by omega) with ⟨h1, h2⟩ | h1
    · by_cases he : ef[n]! = 0
      · left
        rw [if_neg (fun hh => hh.1 he)]
        refine ⟨h1, fun i hi => ?_⟩
        by_cases hin : i = n
        · subst hin; exact he
        · exact h2 i (by omega)
      · right
        rw [if_pos ⟨he, h1⟩]
        have := hw n (by omega)
        have e : w[n]! - v[n]! = k * ef[n]! := by omega
        rw [e, Int.mul_tdiv_cancel _ he]
    · right
      rw [if_neg (fun hh => hk (by rw [← h1]; exact hh.2))]; exact h1
/-- the first number of times is returned -/
theorem reach_first {np : Nat} {nd ef v w : List Int} {k : Nat} (hv : v.length = np) (hw : w.length = np) (hb : ∀ j : Nat, j < k → ¬ (doesB nd ef v np j = true ∧ afterL np ef v j = w)) (hd : doesB nd ef v np k = true) (ha : afterL np ef v k = w) :
    reachF np nd ef v w = ((k : Int), true) := by
  unfold reachF
  by_cases hvw : v = w
  · rw [if_pos hvw]
    have : k = 0 := by
      rcases Nat.eq_zero_or_pos k with h | h
      · exact h
      · exact absurd ⟨does_zero, by rw [show ((0 : Nat) : Int) = 0 from rfl, after_zero hv]; exact hvw⟩ (hb 0 h)
    rw [this]; rfl
  · rw [if_neg hvw]
    have hk : (k : Int) ≠ 0 := by
      intro h0
      rw [h0, after_zero hv] at ha
      exact hvw ha
    have hf : ∀ i, i < np → v[i]! + k * ef[i]! = w[i]! := fun i hi => by rw [← ha, afterL_at hi]
    have hN : firstN ef v w np = k := by
      rcases first_find hk hf np (Nat.le_refl _) with ⟨_, h2⟩ | h
      · exfalso
        apply hvw
        refine ext_bang hv hw fun i hi => ?_
        have := hf i hi
        rw [h2 i hi] at this; omega
      · exact h
    rw [hN, fits_good hf, hd, decide_eq_true (show 1 ≤ (k : Int) by omega)]
    rfl
/-- what is returned is a number of times -/
theorem reach_ok {np : Nat} {nd ef v w : List Int} {n : Int} (hv : v.length = np) (hw : w.length = np) (h : reachF np nd ef v w = (n, true)) : 0 ≤ n ∧ doesB nd ef v np n = true ∧ afterL np ef v n = w := by
  unfold reachF at h
  split at h
  · rename_i hvw
    injection h with h1 h2
    subst h1
    exact ⟨Int.le_refl _, does_zero, by rw [after_zero hv]; exact hvw⟩
  · split at h
    · rename_i hc
      rw [Bool.and_eq_true, Bool.and_eq_true] at hc
      injection h with h1 h2
      rw [h1] at hc
      have h3 := of_decide_eq_true hc.1.2
      refine ⟨by omega, hc.2, ext_bang (afterL_len ..) hw fun i hi => ?_⟩
      rw [afterL_at hi]
      have h4 := hc.1.1
      unfold fitsB at h4
      rw [List.all_eq_true] at h4
      exact beq_iff_eq.1 (h4 i (List.mem_range.2 hi))
    · injection h with h1 h2; cases h2
theorem feas_end : ∀ {ts : List Tk} {v : Int}, (∀ t ∈ ts, 0 ≤ t.2) → 0 ≤ v → feas ts v → 0 ≤ v + chg ts
  | [], v, _, h, _ => by simp [chg]; exact h
  | t :: ts, v, hg, hv, h => by
    have := feas_end (ts := ts) (v := v - t.1 + t.2) (fun x hx => hg x (List.mem_cons_of_mem _ hx)) (by have := hg t (List.mem_cons_self ..); have := h.1; omega) h.2
    simp only [chg]; omega
theorem rep_mem {ts : List Tk} {t : Tk} : ∀ {k}, t ∈ rep ts k → t ∈ ts
  | 0, h => by simp [rep] at h
  | k + 1, h => by
    rw [rep, List.mem_append] at h
    rcases h with h | h
    · exact h
    · exact rep_mem h
/-- doing a cycle k times from a vector, at each place -/
theorem does_feas {np : Nat} {rules : List RD} {c v : List Int} {k : Nat} (hs : ∀ r ∈ rules, SmallR np r) (hc : RulesOk rules c) (hv : v.length = np ∧ ∀ x ∈ v, 0 ≤ x) :
    doesB (needL np rules c) (chgL np rules c) v np k = true ↔ ∀ p, p < np → feas (rep (tksF rules c p) k) v[p]! := by
  rw [does_iff, timesP_iff]
  constructor
  · intro h p hp
    have hb := tks_bnd hs hc hp
    refine (feas_rep (fun t ht => (hb t ht).1) (fun t ht => (hb t ht).2.2.1) (hv.2 _ (mem_bangI (by omega))) k).2 fun i hi => ?_
    have := h p hp i hi
    rw [needL_at hp, chgL_at hp] at this; exact this
  · intro h p hp i hi
    have hb := tks_bnd hs hc hp
    have := (feas_rep (fun t ht => (hb t ht).1) (fun t ht => (hb t ht).2.2.1) (hv.2 _ (mem_bangI (by omega))) k).1 (h p hp) i hi
    rw [needL_at hp, chgL_at hp]; exact this
theorem after_low {np : Nat} {rules : List RD} {c v : List Int} {k : Nat} (hs : ∀ r ∈ rules, SmallR np r) (hc : RulesOk rules c) (hv : v.length = np ∧ ∀ x ∈ v, 0 ≤ x) (hd : doesB (needL np rules c) (chgL np rules c) v np k = true) :
    ∀ x ∈ afterL np (chgL np rules c) v k, 0 ≤ x := fun x hx => by
  obtain ⟨p, hp, rfl⟩ := List.mem_map.1 hx
  have hp := List.mem_range.1 hp
  have h1 := (does_feas hs hc hv).1 hd p hp
  have hb := tks_bnd hs hc hp
  have := feas_end (fun t ht => (hb t (rep_mem ht)).2.2.1) (hv.2 _ (mem_bangI (by omega))) h1
  rw [chg_rep, ← chgL_at hp] at this
  exact this
end Go.AM

/-! ## FL -/
namespace Go.AM
open Go Go.Proofs Go.RowKit

/-- two numbers of the dice, cut -/
theorem take_two {np : Nat} {a b B : Int} (hnp : 1 ≤ np ∧ np ≤ 2) (ha : 0 ≤ a ∧ a < B) (hb : 0 ≤ b ∧ b < B) : ∃ v : List Int, List.take np [AV.sc (.int .i64 a), AV.sc (.int .i64 b)] = v.map vi ∧ v.length = np ∧ ∀ x ∈ v, 0 ≤ x ∧ x < B := by
  refine ⟨List.take np [a, b], by rw [List.map_take]; rfl, by rw [List.length_take]; simp only [List.length_cons, List.length_nil]; omega, fun x hx => ?_⟩
  have := List.mem_of_mem_take hx
  simp only [List.mem_cons, List.not_mem_nil, or_false] at this
  rcases this with rfl | rfl <;> assumption
def afterTail : Tr := .one 5 (.one 6 (.alt (.one 7 (.alt (.one 8 (.one 9 (.one 10 .done))) (.one 9 (.one 8 (.one 10 .done))))) (.one 8 (.one 7 (.one 9 (.one 10 .done))))))
set_option maxRecDepth 100000 in
set_option maxHeartbeats 8000000 in
theorem con_reachesLaw (l : List Int) (hl : l.length ≤ 9223372036854775807) (hx : ∀ x ∈ l, 0 ≤ x ∧ x < 256) :
    Con Tryz.prog 4 [.sl 0 1 (l.map vu)] [] fun r _ => r = vb true := by
  refine Con.intro Tryz.func4 rfl Tryz.ntmps4 Tryz.results4 (by kernel_rfl) (by simp) 0 (by simp) ?_
  have hs : Seeds (l.take 200) := ⟨by rw [List.length_take]; omega, fun x h => hx x (List.mem_of_mem_take h)⟩
  simp only [go_sem]
  refine CallU.free con_sane30 (by simp only [go_sem]) (by simp only [go_sem]) ?_
  rintro r bx rfl
  simp only [go_sem]
  refine CallU.news (bx0 := []) (con_new l hl) (by simp only [go_sem]) (by simp only [go_sem]) (by simp only [go_sem]) (by simp only [go_sem]) (by simp only [go_sem]) ?_
  rintro r bx ⟨rfl, rfl⟩
  generalize l.take 200 = l at hs
  simp only [go_sem]
  refine CallU.boxes (i := 0) (is := []) (bx0 := [diceA l 0]) (con_Counter l 0 hs (by omega)) (by simp only [go_sem]) (by simp only [go_sem]) (by simp only [go_sem]) (by simp only [go_sem]) (by simp only [go_sem]) ?_
  rintro r bx ⟨ns, np, rules, v0, at1, hd, ha1, rfl, rfl⟩
  have hP := deal_plain hd
  have hns := hd.hns
  have hnp := hd.hnp
  have hrl := hd.len
  have l1 : (dealM ns np rules v0).states.length = ns := states_len hns.2
  have l2 : (dealM ns np rules v0).places.length = np := places_len hnp.2
  have er : (dealM ns np rules v0).rules = rules := rfl
  generalize dealM ns np rules v0 = m at hP l1 l2 er
  subst er
  have hsm := good_small hP.good
  rw [l2] at hsm
  simp only [go_sem, vM, cM, vss]
  refine CallU.boxes (i := 0) (is := []) (bx0 := [diceA l at1]) (con_cycle l at1 m hs ha1 hP.good hP.still hrl) (by simp only [go_sem]) (by simp only [go_sem]) (by simp only [go_sem]) (by simp only [go_sem]) (by simp only [go_sem]) ?_
  rintro r bx ⟨c, at2, hc, hc1, hc3, ha2, rfl, rfl⟩
  simp only [go_sem]
  refine CallU.free (con_fcheck m c hP.good hP.still hc (by omega)) (by simp only [go_sem]) (by simp only [go_sem, vM, cM, vss]) ?_
  rintro r bx rfl
  by_cases he : fcheckE m.rules c = 0
  case neg =>
    have he' : (fcheckE m.rules c != 0) = true := bne_iff_ne.2 he
    simp only [go_sem, he']
  have hp2 := pickA_le ha2
  have q1 := pickV_lt (l := l) (at_ := at2) (show (1 : Int) ≤ 6 by omega)
  have q2 := pickV_lt (l := l) (at_ := pickA l at2) (show (1 : Int) ≤ 6 by omega)
  simp only [go_sem, he]
  refine DrawK.effs0 0 [1, 3] [] 8 (.one 8 (.one 9 .done)) none (diceA l at2) mixed (by kernel_rfl) (by kernel_rfl) (by simp only [go_sem]) (by simp only [go_sem]) ?_
  simp only [go_sem]
  refine EffK.mk (con_pickF l at2 6 hs ha2 (by omega)) (by simp only [go_sem]) (by simp only [go_sem]) (by simp only [go_sem]) (by simp only [go_sem]) ?_
  simp only [go_sem]
  refine EffK.mk (con_pickF l (pickA l at2) 6 hs hp2 (by omega)) (by simp only [go_sem]) (by simp only [go_sem]) (by simp only [go_sem]) (by simp only [go_sem]) ?_
  simp only [go_sem, List.length_map, l2]
  refine ⟨⟨hnp.2, ?_⟩, trivial⟩
  obtain ⟨v, ev, hvl, hvb⟩ := take_two hnp q1 q2
  have hp3 := pickA_le hp2
  rw [ev]
  generalize pickA l (pickA l at2) = at3 at hp3
  have hp4 := pickA_le hp3
  have q3 := pickV_lt (l := l) (at_ := at3) (show (1 : Int) ≤ 9 by omega)
  have q4 := pickV_lt (l := l) (at_ := pickA l at3) (show (1 : Int) ≤ 9 by omega)
  refine DrawK.effs0 0 [1, 3] [] 8 (.one 8 (.one 9 .done)) none (diceA l at3) mixed (by kernel_rfl) (by kernel_rfl) (by simp only [go_sem]) (by simp only [go_sem]) ?_
  simp only [go_sem]
  refine EffK.mk (con_pickF l at3 9 hs hp3 (by omega)) (by simp only [go_sem]) (by simp only [go_sem]) (by simp only [go_sem]) (by simp only [go_sem]) ?_
  simp only [go_sem]
  refine EffK.mk (con_pickF l (pickA l at3) 9 hs hp4 (by omega)) (by simp only [go_sem]) (by simp only [go_sem]) (by simp only [go_sem]) (by simp only [go_sem]) ?_
  simp only [go_sem, List.length_map, l2]
  refine ⟨⟨hnp.2, ?_⟩, trivial⟩
  obtain ⟨w, ew, hwl, hwb⟩ := take_two hnp q3 q4
  have hp5 := pickA_le hp4
  rw [ew]
  generalize pickA l (pickA l at3) = at4 at hp5
  have hVS : VecS m.places.length v := ⟨hvl.trans l2.symm, fun x hx => by have := hvb x hx; omega⟩
  have q5 := pickV_lt (l := l) (at_ := at4) (show (1 : Int) ≤ 4 by omega)
  obtain ⟨k, ek, hk⟩ : ∃ k : Nat, pickV l at4 4 = k ∧ k < 4 := ⟨(pickV l at4 4).toNat, by omega, by omega⟩
  have hA := con_After m c v k hP.good hP.still hc (by omega) hVS he (by omega)
  have hlo := loop_ok hP.good hc (by omega)
  have hlow := fun (k : Nat) hd => after_low (k := k) (v := v) hsm hc ⟨hvl, fun x hx => (hvb x hx).1⟩ hd
  have hAf := fun (k : Nat) (hk : k ≤ 100) => con_After m c v k hP.good hP.still hc (by omega) hVS he hk
  have hRe := fun w (hw : VecOk m.places.length w) => con_Reaches m c v w hP.good hP.still hc (by omega) hVS.ok hw he
  rw [l2] at hA hlo hAf hRe
  have hel := chgL_len np m.rules c
  generalize chgL np m.rules c = ef at *
  generalize needL np m.rules c = nd at *
  refine DrawK.freeze (fun _ => true) ?_
  simp only [go_sem]
  cases hB : doesB nd ef v np k
  case' false =>
    rw [hB] at hA
    refine DrawK.meet ⟨112, [(3, .pb 0 0), (4, .pb 1 0), (5, vs 0 c), (8, vs 0 v), (9, vs 0 w), (10, .nil), (11, vi 18)], [diceA l (pickA l at4), cM m]⟩ ?_ ?_
  case' true =>
    rw [hB] at hA
    refine DrawK.meet ⟨112, [(3, .pb 0 0), (4, .pb 1 0), (5, vs 0 c), (8, vs 0 v), (9, vs 0 w), (10, vs 3842 (afterL np ef v k)), (11, vi 0)], [diceA l (pickA l at4), cM m]⟩ ?_ ?_
  case false.refine_1 =>
    refine DrawK.effs0 0 [4] [] 5 afterTail none (diceA l at4) mixed (by kernel_rfl) (by kernel_rfl) (by simp only [go_sem]) (by simp only [go_sem]) ?_
    simp only [go_sem]
    refine EffK.mk (con_pickF l at4 4 hs hp5 (by omega)) (by simp only [go_sem]) (by simp only [go_sem]) (by simp only [go_sem]) (by simp only [go_sem]) ?_
    unfold afterTail
    simp only [go_sem, ek]
    refine ⟨CallU.free hA (by simp only [go_sem]) (by simp only [go_sem, vM, cM, vss]) ?_, trivial⟩
    rintro r bx rfl
    repeat' (first | with_reducible apply andK_mk | simp only [go_sem, Bool.false_eq_true, if_false])
  case true.refine_1 =>
    refine DrawK.effs0 0 [4] [] 5 afterTail none (diceA l at4) mixed (by kernel_rfl) (by kernel_rfl) (by simp only [go_sem]) (by simp only [go_sem]) ?_
    simp only [go_sem]
    refine EffK.mk (con_pickF l at4 4 hs hp5 (by omega)) (by simp only [go_sem]) (by simp only [go_sem]) (by simp only [go_sem]) (by simp only [go_sem]) ?_
    unfold afterTail
    simp only [go_sem, ek]
    refine ⟨CallU.free hA (by simp only [go_sem]) (by simp only [go_sem, vM, cM, vss]) ?_, trivial⟩
    rintro r bx rfl
    repeat' (first | with_reducible apply andK_mk | simp only [go_sem, if_true])
  all_goals
    have hp6 := pickA_le hp5
    generalize pickA l at4 = at5 at *
  case' false.refine_2 =>
    have hW : VecOk np w := ⟨hwl, fun x hx => by have := hwb x hx; omega⟩
    generalize w = W at *
    simp only [go_sem, cM, vss]
  case' true.refine_2 =>
    have hp7 := pickA_le hp6
    have q6 := pickV_lt (l := l) (at_ := at5) (show (1 : Int) ≤ 2 by omega)
    simp only [go_sem, cM, vss]
    refine CallU.boxes (i := 0) (is := []) (bx0 := [diceA l at5]) (con_pickF l at5 2 hs hp6 (by omega)) (by simp only [go_sem]) (by simp only [go_sem]) (by simp only [go_sem]) (by simp only [go_sem]) (by simp only [go_sem]) ?_
    rintro r b ⟨rfl, rfl⟩
    generalize pickA l at5 = at6 at *
    have : pickV l at5 2 = 0 ∨ pickV l at5 2 = 1 := by omega
    rcases this with hz | hz
  case' true.refine_2.inl =>
    have hzz : (pickV l at5 2 == 0) = true := by rw [hz]; rfl
    have hW : VecOk np (afterL np ef v k) := ⟨afterL_len .., fun x hx => ⟨hlow k hB x hx, by
      obtain ⟨p, hp, rfl⟩ := List.mem_map.1 hx
      have hp := List.mem_range.1 hp
      have b1 := hvb _ (mem_bangI (show p < v.length by omega))
      have b2 := hlo.eff.2 _ (mem_bangI (show p < ef.length by omega))
      have := mul_bnd (a := (k : Int)) (b := ef[p]!) (A := 3) (B := 1100) (by omega) (by omega) b2.1 b2.2
      omega⟩⟩
    generalize afterL np ef v k = W at *
    simp only [go_sem, hzz]
  case' true.refine_2.inr =>
    have hzz : (pickV l at5 2 == 0) = false := by rw [hz]; rfl
    have hW : VecOk np w := ⟨hwl, fun x hx => by have := hwb x hx; omega⟩
    generalize w = W at *
    simp only [go_sem, hzz]
  all_goals
    have hR := hRe W hW
    have hrf := fun (j : Nat) => reach_first (nd := nd) (ef := ef) (k := j) hvl hW.1
    have hro := fun n => reach_ok (nd := nd) (ef := ef) (n := n) hvl hW.1
    obtain ⟨R, hRR⟩ : ∃ R, R = reachF np nd ef v W := ⟨_, rfl⟩
    rw [← hRR] at hR hrf hro
    refine CallU.freeze hR (by simp only [go_sem]) (by simp only [go_sem, vM, cM, vss]) ?_
    rintro r b rfl
    simp only [go_sem]
    refine LoopK.intro (fun j : Nat => ⟨112, [(4, .pb 1 0), (5, vs 0 c), (8, vs 0 v), (9, vs 0 W), (12, vi R.1), (13, vb R.2), (15, vi j)], [[.any, .any], cM m]⟩)
      (fun j => 12 - j) (fun j => j ≤ 12 ∧ ∀ i : Nat, i < j → ¬ (doesB nd ef v np i = true ∧ afterL np ef v i = W)) 0 ⟨by omega, fun i hi => by omega⟩ ?_ ?_
    · simp only [go_sem, cM, vss]
    rintro j ⟨hj, hjb⟩
    by_cases hjl : (j : Int) < 12
    case neg =>
      rcases R with ⟨R1, R2⟩
      cases R2 with
      | false => simp only [go_sem, cM, vss, hjl]
      | true =>
        have h4 := hro R1 rfl
        have h5 : (12 : Int) ≤ R1 := by
          refine Int.not_lt.1 fun hlt => ?_
          obtain ⟨q, rfl⟩ : ∃ q : Nat, R1 = q := ⟨R1.toNat, by omega⟩
          exact hjb q (by omega) h4.2
        simp only [go_sem, cM, vss, hjl, h5]
    have hAj := hAf j (by omega)
    have hw1 : IntKind.i64.wrap (j + 1) = j + 1 := wrap_in (by omega) (by omega)
    cases hD : doesB nd ef v np j
    · rw [hD] at hAj
      simp only [go_sem, cM, vss, hjl]
      refine CallU.free hAj (by simp only [go_sem]) (by simp only [go_sem, vM, cM, vss]) ?_
      rintro r b rfl
      simp only [go_sem, Bool.false_eq_true, if_false, hw1]
      refine roundK.intro (j + 1) ⟨by omega, fun i hi => ?_⟩ (by omega) ?_
      · by_cases hij : i = j
        · subst hij; rw [hD]; simp
        · exact hjb i (by omega)
      · simp only [go_sem]
    · rw [hD] at hAj
      have hal := afterL_len np ef v j
      simp only [go_sem, cM, vss, hjl]
      refine CallU.free hAj (by simp only [go_sem]) (by simp only [go_sem, vM, cM, vss]) ?_
      rintro r b rfl
      simp only [go_sem, if_true]
      refine CallU.freeze (con_rsameI (afterL np ef v j) W (by omega)) (by simp only [go_sem]) (by simp only [go_sem]) ?_
      rintro r b rfl
      by_cases hE : afterL np ef v j = W
      · have hE' : (afterL np ef v j == W) = true := beq_iff_eq.2 hE
        have h6 := hrf j hjb hD hE
        rw [h6]
        simp only [go_sem, hE', beq_self_eq_true]
      · have hE' : (afterL np ef v j == W) = false := beq_eq_false_iff_ne.2 hE
        simp only [go_sem, hE', hw1]
        refine roundK.intro (j + 1) ⟨by omega, fun i hi => ?_⟩ (by omega) ?_
        · by_cases hij : i = j
          · subst hij; exact fun hh => hE hh.2
          · exact hjb i (by omega)
        · simp only [go_sem]
end Go.AM

/-! ## CrL -/
namespace Go.AM
open Go Go.Proofs Go.RowKit

set_option maxRecDepth 100000 in
theorem con_rkind (m : MD) (h : GoodM m) : Con Tryz.prog 70 [vM m] [] fun r _ => r = vi 0 := by
  refine Con.intro Tryz.func70 rfl Tryz.ntmps70 Tryz.results70 (by kernel_rfl) (by simp) 0 (by simp) ?_
  have hk := h.kind
  simp only [go_sem, vM, cM, vss, hk]
  refine CallU.free (con_rmcheck m h) (by simp only [go_sem]) (by simp only [go_sem, vM, cM, vss, hk]) ?_
  rintro r bx rfl
  simp only [go_sem]
set_option maxRecDepth 100000 in
theorem con_rquiet (m : MD) (c : CV) (h : GoodM m) (hc : confB m.states.length m.places.length c = true) : Con Tryz.prog 71 [vM m, vV c] [] fun r _ => r = .tup [.nil, vi 0] := by
  have e0 := vV_eq c
  rw [e0]
  refine Con.intro Tryz.func71 rfl Tryz.ntmps71 Tryz.results71 (by kernel_rfl) (by simp) 0 (by simp) ?_
  have hk := h.kind
  simp only [go_sem, vM, cM, vss, hk]
  refine CallU.free (con_rkind m h) (by simp only [go_sem]) (by simp only [go_sem, vM, cM, vss, hk]) ?_
  rintro r bx rfl
  simp only [go_sem]
  refine CallU.free (con_rmvalid m c h hc) (by simp only [go_sem]) (by simp only [go_sem, vM, cM, vss, hk, e0]) ?_
  rintro r bx rfl
  simp only [go_sem]
set_option maxRecDepth 100000 in
theorem con_rfault (m : MD) (i : Nat) (h : GoodM m) (hi : i < m.rules.length) : Con Tryz.prog 187 [vM m, vi i] [] fun r _ => r = vi 0 := by
  refine Con.intro Tryz.func187 rfl Tryz.ntmps187 Tryz.results187 (by kernel_rfl) (by simp) 0 (by simp) ?_
  have hk := h.kind
  have a1 : ¬ ((i : Int) < 0) := by omega
  have a2 : ¬ ((m.rules.length : Int) ≤ (i : Int)) := by omega
  simp only [go_sem, vM, cM, vss, hk]
  refine CallU.free (con_rmcheck m h) (by simp only [go_sem]) (by simp only [go_sem, vM, cM, vss, hk]) ?_
  rintro r bx rfl
  simp only [go_sem, a1, a2, List.length_map]
/-- a rule can be used -/
def enF (r : RD) (s : Nat) (v : List Int) : Bool := ((s : Int) == r.src) && (List.range r.need.length).all fun i => decide (r.need[i]! ≤ v[i]!)
theorem cfg_kid {s : Nat} {v : List Int} {i : Nat} (h : i < v.length) : ((cfgC s v).kids.map vV)[i + 1]? = some (.ag [.sc (.int .i64 v[i]!), .sl 0 2 []]) := by
  show ((CV.mk s [] :: v.map fun n => CV.mk n []).map vV)[i + 1]? = _
  rw [List.map_cons, List.getElem?_cons_succ, List.getElem?_map, List.getElem?_map, List.getElem?_eq_getElem h, getElem!_pos v i h]
  show some (vV (CV.mk v[i] [])) = _
  rw [vV_eq]; rfl
theorem cfg_first {s : Nat} {v : List Int} : ((cfgC s v).kids.map vV)[0]? = some (.ag [.sc (.int .i64 s), .sl 0 2 []]) := by
  show ((CV.mk s [] :: v.map fun n => CV.mk n []).map vV)[0]? = _
  rw [List.map_cons, List.getElem?_cons_zero, vV_eq]; rfl
theorem cfg_klen {s : Nat} {v : List Int} : (cfgC s v).kids.length = v.length + 1 := by
  show (CV.mk s [] :: v.map fun n => CV.mk n []).length = _
  simp
set_option maxRecDepth 100000 in
set_option maxHeartbeats 1000000 in
theorem con_renabled (r : RD) (s : Nat) (v : List Int) (hl : r.need.length = v.length) (h6 : v.length ≤ 6) : Con Tryz.prog 188 [vRule r, vV (cfgC s v)] [] fun x _ => x = vb (enF r s v) := by
  rw [vV_eq (cfgC s v)]
  refine Con.intro Tryz.func188 rfl Tryz.ntmps188 Tryz.results188 (by kernel_rfl) (by simp) 0 (by simp) ?_
  have g0 := cfg_first (s := s) (v := v)
  have kl := cfg_klen (s := s) (v := v)
  have k0 : 0 < (cfgC s v).kids.length := by rw [kl]; omega
  simp only [go_sem]
  refine DrawK.walk 8 mixed (by kernel_rfl) ?_
  simp only [go_sem, k0, g0]
  by_cases hs : (s : Int) = r.src
  case neg =>
    have hn : ((s : Int) != r.src) = true := bne_iff_ne.2 hs
    have e : enF r s v = false := by unfold enF; rw [beq_eq_false_iff_ne.2 hs]; rfl
    simp only [go_sem, hn, e]
  have hn : ((s : Int) != r.src) = false := by rw [hs]; simp
  simp only [go_sem, hn]
  refine LoopK.intro (fun i : Nat => ⟨34, [(2, .pb 0 0), (3, .pb 1 0), (5, vi i)], [[vStr r.name, vi r.src, vi r.dst, vs 0 r.need, vs 0 r.give, vs 0 r.move, vi r.channel, vi r.act, vi r.letter, vs 0 r.path, vs 0 r.next, .sl 0 3 (r.takes.map vTake), vs 0 r.makes, vi r.second], [vi (cfgC s v).n, .sl 0 2 ((cfgC s v).kids.map vV)]]⟩)
    (fun i => r.need.length - i) (fun i => i ≤ r.need.length ∧ ∀ j, j < i → r.need[j]! ≤ v[j]!) 0 ⟨by omega, fun j hj => by omega⟩ ?_ ?_
  · simp only [go_sem]
    all_goals exact leB_self _
  rintro i ⟨hi, hb⟩
  by_cases h : i < r.need.length
  · have hg := getv h
    have hk := cfg_kid (s := s) (v := v) (i := i) (by omega)
    have hkl : i + 1 < (cfgC s v).kids.length := by rw [kl]; omega
    have hw : IntKind.i64.wrap (i + 1) = i + 1 := wrap_in (by omega) (by omega)
    have hw2 : IntKind.i64.wrap (1 + (i : Int)) = ((i + 1 : Nat) : Int) := by rw [wrap_in (by omega) (by omega)]; omega
    simp only [go_sem, h]
    refine DrawK.walk 13 mixed (by kernel_rfl) ?_
    have ht : ((i : Int) + 1).toNat = i + 1 := by omega
    have hk2 : Option.map vV (cfgC s v).kids[i + 1]? = some (.ag [.sc (.int .i64 v[i]!), .sl 0 2 []]) := by rw [← List.getElem?_map]; exact hk
    have hkl2 : (i : Int) + 1 < ((cfgC s v).kids.length : Int) := by omega
    simp only [go_sem, h, hg, hw2, ht, hk2, hkl2]
    refine ⟨by omega, ?_⟩
    by_cases hq : v[i]! < r.need[i]!
    · have e : enF r s v = false := by
        unfold enF
        rw [Bool.and_eq_false_iff]
        right
        rw [List.all_eq_false]
        exact ⟨i, List.mem_range.2 h, by rw [decide_eq_false (by omega)]; simp⟩
      simp only [go_sem, hq, e]
    · simp only [go_sem, hq, hw]
      refine roundK.intro (i + 1) ⟨by omega, fun j hj => ?_⟩ (by omega) ?_
      · by_cases hji : j = i
        · subst hji; omega
        · exact hb j (by omega)
      · simp only [go_sem]
  · have e : enF r s v = true := by
      unfold enF
      rw [beq_iff_eq.2 hs, Bool.true_and, List.all_eq_true]
      intro j hj
      have := List.mem_range.1 hj
      exact decide_eq_true (hb j (by omega))
    simp only [go_sem, h, e]
end Go.AM

/-! ## FM -/
namespace Go.AM

/-- the vector behind i times and the first j rules -/
def vecAt (np : Nat) (rules : List RD) (c v : List Int) (i : Int) (j : Nat) : List Int := (List.range np).map fun p => v[p]! + i * chg (tksF rules c p) + chg (tksF rules (c.take j) p)
theorem vecAt_len (np : Nat) (rules : List RD) (c v : List Int) (i : Int) (j : Nat) : (vecAt np rules c v i j).length = np := by simp [vecAt]
theorem vecAt_at {np : Nat} {rules : List RD} {c v : List Int} {i : Int} {j p : Nat} (h : p < np) : (vecAt np rules c v i j)[p]! = v[p]! + i * chg (tksF rules c p) + chg (tksF rules (c.take j) p) := by
  rw [getElem!_pos _ p (by rw [vecAt_len]; exact h)]; simp [vecAt]
theorem vecAt_zero {np : Nat} {rules : List RD} {c v : List Int} (h : v.length = np) : vecAt np rules c v 0 0 = v :=
  ext_bang (vecAt_len ..) h fun p hp => by rw [vecAt_at hp]; simp [tksF, chg]
theorem vecAt_after (np : Nat) (rules : List RD) (c v : List Int) (k : Int) : afterL np (chgL np rules c) v k = vecAt np rules c v k 0 :=
  ext_bang (afterL_len ..) (vecAt_len ..) fun p hp => by rw [afterL_at hp, vecAt_at hp, chgL_at hp]; simp [tksF, chg]
theorem vecAt_next (np : Nat) (rules : List RD) (c v : List Int) (i : Int) : vecAt np rules c v i c.length = vecAt np rules c v (i + 1) 0 :=
  ext_bang (vecAt_len ..) (vecAt_len ..) fun p hp => by
    rw [vecAt_at hp, vecAt_at hp, List.take_length, Int.add_mul]; simp [tksF, chg]; omega
theorem vecAt_fire {np : Nat} {rules : List RD} {c v : List Int} {i : Int} {j : Nat} (hs : ∀ r ∈ rules, SmallR np r) (hc : RulesOk rules c) (hj : j < c.length) : fireF rules[c[j]!.toNat]! (vecAt np rules c v i j) = vecAt np rules c v i (j + 1) := by
  have hck := hc _ (mem_bangI hj)
  have hr := hs _ (mem_bangI (show c[j]!.toNat < rules.length by omega))
  have hvl := vecAt_len np rules c v i j
  refine ext_bang (by unfold fireF; rw [fireL_len (by rw [hr.1, hvl]) (by rw [hr.2.1, hvl]), hvl]) (vecAt_len ..) fun p hp => ?_
  unfold fireF
  rw [fireL_at (by rw [hr.1, hvl]) (by rw [hr.2.1, hvl]) (by omega), vecAt_at hp, vecAt_at hp, chg_take hj]
  omega
theorem tks_at {rules : List RD} {c : List Int} {p j : Nat} (h : j < c.length) : (tksF rules c p)[j]? = some (rules[c[j]!.toNat]!.need[p]!, rules[c[j]!.toNat]!.give[p]!) := by
  unfold tksF
  rw [List.getElem?_map, List.getElem?_eq_getElem h, getElem!_pos c j h]; rfl
theorem feas_take : ∀ {ts : List Tk} {v : Int} (j : Nat), feas ts v → feas (ts.take j) v
  | [], v, j, _ => by simp [feas]
  | t :: ts, v, 0, _ => by simp [feas]
  | t :: ts, v, j + 1, h => ⟨h.1, feas_take j h.2⟩
theorem feas_snoc {ts : List Tk} {t : Tk} {v : Int} : feas (ts ++ [t]) v ↔ feas ts v ∧ t.1 ≤ v + chg ts := by
  rw [feas_app]
  simp only [feas, and_true]
theorem tks_of_take (rules : List RD) (c : List Int) (p j : Nat) : tksF rules (c.take j) p = (tksF rules c p).take j := by unfold tksF; rw [List.map_take]
/-- a rule of the cycle can be used -/
theorem vecAt_en {np : Nat} {rules : List RD} {c v : List Int} {i : Int} {j : Nat} (hs : ∀ r ∈ rules, SmallR np r) (hc : RulesOk rules c) (hj : j < c.length) (hsrc : 0 ≤ rules[c[j]!.toNat]!.src) :
    enF rules[c[j]!.toNat]! rules[c[j]!.toNat]!.src.toNat (vecAt np rules c v i j) = true ↔ ∀ p, p < np → rules[c[j]!.toNat]!.need[p]! ≤ v[p]! + i * chg (tksF rules c p) + chg (tksF rules (c.take j) p) := by
  have hck := hc _ (mem_bangI hj)
  have hr := hs _ (mem_bangI (show c[j]!.toNat < rules.length by omega))
  unfold enF
  rw [Bool.and_eq_true, beq_iff_eq, List.all_eq_true]
  constructor
  · rintro ⟨_, h⟩ p hp
    have := h p (List.mem_range.2 (by rw [hr.1]; exact hp))
    rw [decide_eq_true_eq, vecAt_at hp] at this; exact this
  · intro h
    refine ⟨by omega, fun p hp => ?_⟩
    have hp := List.mem_range.1 hp
    rw [hr.1] at hp
    rw [decide_eq_true_eq, vecAt_at hp]; exact h p hp
/-- once more, at each place -/
def FeasAt (np : Nat) (rules : List RD) (c v : List Int) (i : Int) (j : Nat) : Prop := ∀ p, p < np → 0 ≤ v[p]! + i * chg (tksF rules c p) ∧ feas (tksF rules (c.take j) p) (v[p]! + i * chg (tksF rules c p))
theorem feasAt_low {np : Nat} {rules : List RD} {c v : List Int} {i : Int} {j : Nat} (hs : ∀ r ∈ rules, SmallR np r) (hc : RulesOk rules c) (h : FeasAt np rules c v i j) : ∀ x ∈ vecAt np rules c v i j, 0 ≤ x := fun x hx => by
  obtain ⟨p, hp, rfl⟩ := List.mem_map.1 hx
  have hp := List.mem_range.1 hp
  have h1 := h p hp
  exact feas_end (fun t ht => (tks_bnd hs (rules_take j hc) hp t ht).2.2.1) h1.1 h1.2
theorem feasAt_en {np : Nat} {rules : List RD} {c v : List Int} {i : Int} {j : Nat} (hs : ∀ r ∈ rules, SmallR np r) (hc : RulesOk rules c) (hj : j < c.length) (hsrc : 0 ≤ rules[c[j]!.toNat]!.src) (h : FeasAt np rules c v i c.length) : FeasAt np rules c v i j ∧ enF rules[c[j]!.toNat]! rules[c[j]!.toNat]!.src.toNat (vecAt np rules c v i j) = true := by
  have key : ∀ j, FeasAt np rules c v i j := fun j p hp => by
    have h1 := h p hp
    rw [List.take_length] at h1
    refine ⟨h1.1, ?_⟩
    rw [tks_of_take]; exact feas_take j h1.2
  refine ⟨key j, (vecAt_en hs hc hj hsrc).2 fun p hp => ?_⟩
  have h1 := (key (j + 1) p hp).2
  rw [tks_take hj, feas_snoc] at h1
  exact h1.2
theorem feasAt_next {np : Nat} {rules : List RD} {c v : List Int} {i : Int} {j : Nat} (hs : ∀ r ∈ rules, SmallR np r) (hc : RulesOk rules c) (hj : j < c.length) (hsrc : 0 ≤ rules[c[j]!.toNat]!.src) (h : FeasAt np rules c v i j) (he : enF rules[c[j]!.toNat]! rules[c[j]!.toNat]!.src.toNat (vecAt np rules c v i j) = true) : FeasAt np rules c v i (j + 1) := fun p hp => by
  have h1 := h p hp
  refine ⟨h1.1, ?_⟩
  rw [tks_take hj, feas_snoc]
  exact ⟨h1.2, (vecAt_en hs hc hj hsrc).1 he p hp⟩
theorem does_feasAt {np : Nat} {rules : List RD} {c v : List Int} {k i : Nat} (hd : doesB (needL np rules c) (chgL np rules c) v np k = true) (hi : i < k) : FeasAt np rules c v i c.length := fun p hp => by
  rw [does_iff, timesP_iff] at hd
  have h1 := hd p hp i hi
  rw [needL_at hp, chgL_at hp] at h1
  have h2 := needA_nonneg (tksF rules c p)
  rw [List.take_length]
  exact ⟨by omega, (needA_iff (by omega)).1 h1⟩
theorem feasAt_does {np : Nat} {rules : List RD} {c v : List Int} {k : Nat} (hd : doesB (needL np rules c) (chgL np rules c) v np k = true) (h : FeasAt np rules c v k c.length) : doesB (needL np rules c) (chgL np rules c) v np ((k + 1 : Nat) : Int) = true := by
  rw [does_iff, timesP_iff] at *
  intro p hp i hi
  by_cases hik : i = k
  · subst hik
    have h1 := h p hp
    rw [List.take_length] at h1
    rw [needL_at hp, chgL_at hp]
    exact (needA_iff h1.1).2 h1.2
  · exact hd p hp i (by omega)
theorem does_low {np : Nat} {rules : List RD} {c v : List Int} {k : Nat} (hs : ∀ r ∈ rules, SmallR np r) (hc : RulesOk rules c) (hv : v.length = np ∧ ∀ x ∈ v, 0 ≤ x) (hd : doesB (needL np rules c) (chgL np rules c) v np k = true) : FeasAt np rules c v k 0 := fun p hp => by
  have h1 := after_low hs hc hv hd
  rw [vecAt_after] at h1
  have h2 := h1 _ (mem_bangI (show p < (vecAt np rules c v k 0).length by rw [vecAt_len]; exact hp))
  rw [vecAt_at hp] at h2
  simp only [List.take_zero, tksF, List.map_nil, chg, feas, and_true] at h2 ⊢
  omega
theorem vecAt_high {np : Nat} {rules : List RD} {c v : List Int} {i : Int} {j : Nat} (hs : ∀ r ∈ rules, SmallR np r) (hc : RulesOk rules c) (hl : c.length ≤ 64) (hv : v.length = np ∧ ∀ x ∈ v, x ≤ 1000) (hi : 0 ≤ i ∧ i ≤ 100) : ∀ x ∈ vecAt np rules c v i j, x ≤ 120000 := fun x hx => by
  obtain ⟨p, hp, rfl⟩ := List.mem_map.1 hx
  have hp := List.mem_range.1 hp
  have b1 := chg_bnd (tks_bnd hs hc hp) (by omega)
  have b2 := chg_bnd (tks_bnd hs (rules_take j hc) hp) (by omega)
  rw [tks_len] at b1 b2
  have h9 : (c.take j).length ≤ 64 := by rw [List.length_take]; omega
  have b3 := hv.2 _ (mem_bangI (show p < v.length by omega))
  have := mul_bnd (a := i) (b := chg (tksF rules c p)) (A := 100) (B := 1024) hi.1 hi.2 (by omega) (by omega)
  omega
end Go.AM

/-! ## CrM -/
namespace Go.AM
open Go Go.Proofs Go.RowKit

set_option maxRecDepth 100000 in
set_option maxHeartbeats 1000000 in
theorem con_rEnabled (m : MD) (i s : Nat) (v : List Int) (h : GoodM m) (hi : i < m.rules.length) (hc : GoodC m s v) : Con Tryz.prog 135 [vM m, vi i, vV (cfgC s v)] [] fun x _ => x = .tup [vb (enF m.rules[i]! s v), vi 0] := by
  have e0 := vV_eq (cfgC s v)
  rw [e0]
  refine Con.intro Tryz.func135 rfl Tryz.ntmps135 Tryz.results135 (by kernel_rfl) (by simp) 0 (by simp) ?_
  have h2 := h.places
  have hg := getRule hi
  have hr := (rule_fine (h.rules _ (mem_bangI hi)).1).right
  unfold RightR at hr
  have hl := hc.len
  simp only [go_sem, vM, cM, vss]
  refine CallU.free (con_rfault m i h hi) (by simp only [go_sem]) (by simp only [go_sem, vM, cM, vss]) ?_
  rintro r bx rfl
  simp only [go_sem]
  refine CallU.free (con_rmvalid m (cfgC s v) h hc.conf) (by simp only [go_sem]) (by simp only [go_sem, vM, cM, vss, e0]) ?_
  rintro r bx rfl
  simp only [go_sem]
  refine DrawK.walk 7 mixed (by kernel_rfl) ?_
  simp only [go_sem, hi, hg]
  refine CallY.mk (con_renabled m.rules[i]! s v (by omega) (by omega)) (by simp only [go_sem, e0]) (by simp only [go_sem]) (.inl (by simp only [go_sem])) ?_
  simp only [go_sem]
theorem fill_round {L : List Int} {i k : Nat} (hl : L.length = k) (h : i < k) : ((L.take i ++ List.replicate (k - i) 0).map vi).modify i (updElem 0 [.sc (.int .i64 L[i]!)]) = (L.take (i + 1) ++ List.replicate (k - (i + 1)) 0).map vi := by
  have h1 : (L.take i).length = i := by rw [List.length_take]; omega
  have e1 : List.replicate (k - i) (0 : Int) = 0 :: List.replicate (k - (i + 1)) 0 := by rw [show k - i = (k - (i + 1)) + 1 by omega, List.replicate_succ]
  have e2 : L.take (i + 1) = L.take i ++ [L[i]!] := by rw [List.take_add_one, List.getElem?_eq_getElem (by omega), getElem!_pos L i (by omega)]; rfl
  rw [modify_vi, e2, e1, List.set_append_right _ _ (by omega), h1, Nat.sub_self, List.set_cons_zero, List.append_assoc]
  rfl
theorem fill_at {L : List Int} {i k : Nat} (hl : L.length = k) (h : i < k) : ((L.take i ++ List.replicate (k - i) 0).map vi)[i]? = some (.sc (.int .i64 0)) := by
  have h1 : (L.take i).length = i := by rw [List.length_take]; omega
  have e1 : List.replicate (k - i) (0 : Int) = 0 :: List.replicate (k - (i + 1)) 0 := by rw [show k - i = (k - (i + 1)) + 1 by omega, List.replicate_succ]
  rw [List.getElem?_map, List.getElem?_append_right (by omega), h1, Nat.sub_self, e1]; rfl
theorem fill_len {L : List Int} {i k : Nat} (hl : L.length = k) (h : i ≤ k) : (L.take i ++ List.replicate (k - i) 0).length = k := by
  rw [List.length_append, List.length_take, List.length_replicate]; omega
/-- what is left behind the needs -/
def leftL (v n : List Int) : List Int := (List.range v.length).map fun i => v[i]! - n[i]!
theorem left_len (v n : List Int) : (leftL v n).length = v.length := by simp [leftL]
theorem left_at {v n : List Int} {i : Nat} (h : i < v.length) : (leftL v n)[i]! = v[i]! - n[i]! := by
  rw [getElem!_pos _ i (by rw [left_len]; exact h)]; simp [leftL]
set_option maxRecDepth 100000 in
set_option maxHeartbeats 4000000 in
theorem con_rapply (m : MD) (i s : Nat) (v : List Int) (h : GoodM m) (hst : m.rules.all stillB = true) (hi : i < m.rules.length) (hc : GoodC m s v) (hb : ∀ x ∈ v, x ≤ 1000000) (he : enF m.rules[i]! s v = true) :
    Con Tryz.prog 74 [vM m, vi i, vV (cfgC s v)] [] fun x _ => x = .tup [cfgN 2 m.rules[i]!.dst.toNat (fireF m.rules[i]! v), vi 0] := by
  have e0 := vV_eq (cfgC s v)
  have hE := con_rEnabled m i s v h hi hc
  rw [he] at hE
  rw [e0] at hE ⊢
  refine Con.intro Tryz.func74 rfl Tryz.ntmps74 Tryz.results74 (by kernel_rfl) (by simp) 0 (by simp) ?_
  have h2 := h.places
  have hg := getRule hi
  have hfr := rule_fine (h.rules _ (mem_bangI hi)).1
  have hmv : m.rules[i]!.move = [] := by
    have := List.all_eq_true.1 hst _ (mem_bangI hi)
    unfold stillB at this
    rw [beq_iff_eq] at this
    exact List.eq_nil_of_length_eq_zero this
  have hl := hc.len
  have hlow := hc.low
  have hgv : ∀ x ∈ m.rules[i]!.give, 0 ≤ x ∧ x ≤ 16 := by
    have h3 := (h.rules _ (mem_bangI hi)).1
    unfold ruleB changesB smallB betweenB at h3
    simp only [Bool.and_eq_true, decide_eq_true_eq, List.all_eq_true] at h3
    exact h3.1.2.2
  have hnd : ∀ x ∈ m.rules[i]!.need, 0 ≤ x ∧ x ≤ 16 := by
    have h3 := (h.rules _ (mem_bangI hi)).1
    unfold ruleB changesB smallB betweenB at h3
    simp only [Bool.and_eq_true, decide_eq_true_eq, List.all_eq_true] at h3
    exact h3.1.2.1.2
  generalize m.rules[i]! = r at *
  obtain ⟨r1, r2, r3, r4, r5, r6⟩ := hfr.right
  have hnl : r.need.length = v.length := by omega
  have hgl : r.give.length = v.length := by omega
  simp only [go_sem, vM, cM, vss]
  refine CallU.free hE (by simp only [go_sem]) (by simp only [go_sem, vM, cM, vss]) ?_
  rintro x bx rfl
  simp only [go_sem, hi, hg, hmv, List.map_nil, List.length_nil]
  refine ⟨Nat.le_refl _, by omega, by omega, ?_⟩
  have hrep : List.replicate r.need.length (AV.sc (.int .i64 0)) = (List.replicate v.length (0 : Int)).map vi := by rw [List.map_replicate, hnl]; rfl
  rw [hrep]
  have hll := left_len v r.need
  refine LoopK.intro (fun j : Nat => ⟨116, [(3, .pb 0 0), (5, .pb 1 0), (6, .pb 2 0), (7, vi 0), (10, .pb 3 0), (11, vs 2496 ((leftL v r.need).take j ++ List.replicate (v.length - j) 0)), (12, vi j)], [cM m, [vi (cfgC s v).n, .sl 0 2 ((cfgC s v).kids.map vV)], [.any, .any], [vStr r.name, vi r.src, vi r.dst, vs 0 r.need, vs 0 r.give, .sl 0 1 [], vi r.channel, vi r.act, vi r.letter, vs 0 r.path, vs 0 r.next, .sl 0 3 (r.takes.map vTake), vs 0 r.makes, vi r.second]]⟩)
    (fun j => v.length - j) (fun j => j ≤ v.length) 0 (by omega) ?_ ?_
  · simp only [go_sem, List.take_zero, List.nil_append, Nat.sub_zero, cM, vss]
  rintro j hj
  have hfl := fill_len (L := leftL v r.need) (i := j) hll hj
  by_cases hjl : j < v.length
  · have gn := getv (l := r.need) (i := j) (by omega)
    have hjn : j < r.need.length := by omega
    have hk := cfg_kid (s := s) (v := v) (i := j) hjl
    have hw : IntKind.i64.wrap (j + 1) = j + 1 := wrap_in (by omega) (by omega)
    have hw2 : IntKind.i64.wrap (1 + (j : Int)) = ((j + 1 : Nat) : Int) := by rw [wrap_in (by omega) (by omega)]; omega
    have ht : ((j : Int) + 1).toNat = j + 1 := by omega
    have hk2 : Option.map vV (cfgC s v).kids[j + 1]? = some (.ag [.sc (.int .i64 v[j]!), .sl 0 2 []]) := by rw [← List.getElem?_map]; exact hk
    have kl := cfg_klen (s := s) (v := v)
    have hkl2 : (j : Int) + 1 < ((cfgC s v).kids.length : Int) := by omega
    have hf1 := fill_at (L := leftL v r.need) hll hjl
    have hf2 := fill_round (L := leftL v r.need) hll hjl
    rw [left_at hjl] at hf2
    have hv1 := hlow _ (mem_bangI hjl)
    have hn1 := hfr.need _ (mem_bangI hjn)
    have w1 : IntKind.i64.wrap (v[j]! - r.need[j]!) = v[j]! - r.need[j]! := wrap_in (by omega) (by omega)
    have w2 : IntKind.i64.wrap (0 + (v[j]! - r.need[j]!)) = v[j]! - r.need[j]! := by rw [wrap_in (by omega) (by omega)]; omega
    simp only [go_sem, hfl, hjl, cM, vss, List.length_nil]
    refine DrawK.walk 19 mixed (by kernel_rfl) ?_
    simp only [go_sem, hfl, hjl, hf1, hw2, ht, hk2, hkl2, hjn, gn, w1, w2, hf2, hw]
    refine ⟨by omega, roundK.intro (j + 1) (by omega) (by omega) ?_⟩
    simp only [go_sem]
  · have e1 : (leftL v r.need).take j ++ List.replicate (v.length - j) 0 = leftL v r.need := by
      rw [List.take_of_length_le (by omega), show v.length - j = 0 by omega]; simp
    rw [e1]
    simp only [go_sem, hll, hjl, cM, vss]
    have hds : r.dst = ((r.dst.toNat : Nat) : Int) := by omega
    have hfl2 : (fireF r v).length = v.length := fireL_len hnl hgl
    refine LoopK.intro (fun j : Nat => ⟨116, [(3, .pb 0 0), (5, .pb 1 0), (6, .pb 2 0), (7, vi 0), (10, .pb 3 0), (11, vs 2496 (leftL v r.need)), (14, .pb 4 0), (15, vi j)], [cM m, [vi (cfgC s v).n, .sl 0 2 ((cfgC s v).kids.map vV)], [.any, .any], [vStr r.name, vi r.src, vi r.dst, vs 0 r.need, vs 0 r.give, .sl 0 1 [], vi r.channel, vi r.act, vi r.letter, vs 0 r.path, vs 0 r.next, .sl 0 3 (r.takes.map vTake), vs 0 r.makes, vi r.second], [vi 0, .sl 5120 2 ((r.dst :: (fireF r v).take j).map kidN)]]⟩)
      (fun j => v.length - j) (fun j => j ≤ v.length) 0 (by omega) ?_ ?_
    · simp only [go_sem, List.take_zero, List.map_cons, List.map_nil, cM, vss]
    rintro j hj
    by_cases hjl : j < v.length
    · have g1 := getv (l := leftL v r.need) (i := j) (by omega)
      have g2 := getv (l := r.give) (i := j) (by omega)
      have hjL : j < (leftL v r.need).length := by omega
      have hjG : j < r.give.length := by omega
      rw [left_at hjl] at g1
      have hw : IntKind.i64.wrap (j + 1) = j + 1 := wrap_in (by omega) (by omega)
      have hv1 := hlow _ (mem_bangI hjl)
      have hv2 := hb _ (mem_bangI hjl)
      have hg1 := hgv _ (mem_bangI hjG)
      have hn1 := hnd _ (mem_bangI (show j < r.need.length by omega))
      have hF : (fireF r v)[j]! = v[j]! - r.need[j]! + r.give[j]! := fireL_at hnl hgl hjl
      have w1 : IntKind.i64.wrap (v[j]! - r.need[j]! + r.give[j]!) = (fireF r v)[j]! := by rw [hF]; exact wrap_in (by omega) (by omega)
      have hnot : ¬ (1048576 : Int) < (fireF r v)[j]! := by omega
      have e : (fireF r v).take (j + 1) = (fireF r v).take j ++ [(fireF r v)[j]!] := by rw [List.take_add_one, List.getElem?_eq_getElem (by omega), getElem!_pos _ j (by omega)]; rfl
      have hro : roomFor (((fireF r v).take j).length + 1 + 1) 32 := by simp only [roomFor, List.length_take]; omega
      simp only [go_sem, hll, hjl, cM, vss, List.map_cons]
      refine DrawK.walk 11 mixed (by kernel_rfl) ?_
      simp only [go_sem, hjG, hjl, hll, g1, g2, w1, hnot]
      refine DrawK.walk 14 mixed (by kernel_rfl) ?_
      simp only [go_sem, hjG, hjl, hll, g1, g2, w1, hw, hro]
      refine roundK.intro (j + 1) (by omega) (by omega) ?_
      simp only [go_sem, cM, vss, e, List.map_append, List.map_cons, List.map_nil]
    · have e2 : (fireF r v).take j = fireF r v := List.take_of_length_le (by omega)
      rw [hds]
      simp only [go_sem, hll, hjl, cM, vss, e2, List.map_cons]
set_option maxRecDepth 100000 in
theorem con_rapplyNo (m : MD) (i s : Nat) (v : List Int) (h : GoodM m) (hi : i < m.rules.length) (hc : GoodC m s v) (he : enF m.rules[i]! s v = false) :
    Con Tryz.prog 74 [vM m, vi i, vV (cfgC s v)] [] fun x _ => x = .tup [.ag [vi 0, .nil], vi 18] := by
  have e0 := vV_eq (cfgC s v)
  have hE := con_rEnabled m i s v h hi hc
  rw [he] at hE
  rw [e0] at hE ⊢
  refine Con.intro Tryz.func74 rfl Tryz.ntmps74 Tryz.results74 (by kernel_rfl) (by simp) 0 (by simp) ?_
  simp only [go_sem, vM, cM, vss]
  refine CallU.free hE (by simp only [go_sem]) (by simp only [go_sem, vM, cM, vss]) ?_
  rintro x bx rfl
  simp only [go_sem]
end Go.AM

/-! ## CrN -/
namespace Go.AM
open Go Go.Proofs Go.RowKit

set_option maxRecDepth 100000 in
set_option maxHeartbeats 1000000 in
theorem con_r22quiet (m : MD) (s : Nat) (v : List Int) (h : GoodM m) (hc : GoodC m s v) : Con Tryz.prog 22 [vM m, vi (-1), vV (cfgC s v)] [] fun x _ => x = .tup [.nil, vi 0] := by
  have e0 := vV_eq (cfgC s v)
  rw [e0]
  refine Con.intro Tryz.func22 rfl Tryz.ntmps22 Tryz.results22 (by kernel_rfl) (by simp) 0 (by simp) ?_
  have hk := h.kind
  have h3 := h.few
  have a2 : ¬ ((m.rules.length : Int) ≤ -1) := by omega
  simp only [go_sem, vM, cM, vss, hk]
  refine CallU.free (con_rkind m h) (by simp only [go_sem]) (by simp only [go_sem, vM, cM, vss, hk]) ?_
  rintro x bx rfl
  simp only [go_sem, a2, List.length_map]
  refine CallU.free (con_rmvalid m (cfgC s v) h hc.conf) (by simp only [go_sem]) (by simp only [go_sem, vM, cM, vss, hk, e0]) ?_
  rintro x bx rfl
  simp only [go_sem]
  refine CallU.free (con_rquiet m (cfgC s v) h hc.conf) (by simp only [go_sem]) (by simp only [go_sem, vM, cM, vss, hk, e0]) ?_
  rintro x bx rfl
  simp only [go_sem]
set_option maxRecDepth 100000 in
set_option maxHeartbeats 1000000 in
theorem con_r22no (m : MD) (i s : Nat) (v : List Int) (h : GoodM m) (hi : i < m.rules.length) (hc : GoodC m s v) (he : enF m.rules[i]! s v = false) : Con Tryz.prog 22 [vM m, vi i, vV (cfgC s v)] [] fun x _ => x = .tup [.nil, vi 0] := by
  have e0 := vV_eq (cfgC s v)
  have hA := con_rapplyNo m i s v h hi hc he
  rw [e0] at hA ⊢
  refine Con.intro Tryz.func22 rfl Tryz.ntmps22 Tryz.results22 (by kernel_rfl) (by simp) 0 (by simp) ?_
  have hk := h.kind
  have a1 : ¬ ((i : Int) < -1) := by omega
  have a2 : ¬ ((m.rules.length : Int) ≤ (i : Int)) := by omega
  have a3 : ((i : Int) == -1) = false := beq_eq_false_iff_ne.2 (by omega)
  simp only [go_sem, vM, cM, vss, hk]
  refine CallU.free (con_rkind m h) (by simp only [go_sem]) (by simp only [go_sem, vM, cM, vss, hk]) ?_
  rintro x bx rfl
  simp only [go_sem, a1, a2, List.length_map]
  refine CallU.free (con_rmvalid m (cfgC s v) h hc.conf) (by simp only [go_sem]) (by simp only [go_sem, vM, cM, vss, hk, e0]) ?_
  rintro x bx rfl
  simp only [go_sem, a3]
  refine CallU.free hA (by simp only [go_sem]) (by simp only [go_sem, vM, cM, vss, hk]) ?_
  rintro x bx rfl
  simp only [go_sem]
set_option maxRecDepth 100000 in
set_option maxHeartbeats 1000000 in
theorem con_r22yes (m : MD) (i s : Nat) (v : List Int) (h : GoodM m) (hst : m.rules.all stillB = true) (hi : i < m.rules.length) (hc : GoodC m s v) (hb : ∀ x ∈ v, x ≤ 1000000) (he : enF m.rules[i]! s v = true) : Con Tryz.prog 22 [vM m, vi i, vV (cfgC s v)] [] fun x _ => x = .tup [.sl 2 2 [cfgN 0 m.rules[i]!.dst.toNat (fireF m.rules[i]! v)], vi 0] := by
  have e0 := vV_eq (cfgC s v)
  have hA := con_rapply m i s v h hst hi hc hb he
  rw [e0] at hA ⊢
  refine Con.intro Tryz.func22 rfl Tryz.ntmps22 Tryz.results22 (by kernel_rfl) (by simp) 0 (by simp) ?_
  have hk := h.kind
  have a1 : ¬ ((i : Int) < -1) := by omega
  have a2 : ¬ ((m.rules.length : Int) ≤ (i : Int)) := by omega
  have a3 : ((i : Int) == -1) = false := beq_eq_false_iff_ne.2 (by omega)
  simp only [go_sem, vM, cM, vss, hk]
  refine CallU.free (con_rkind m h) (by simp only [go_sem]) (by simp only [go_sem, vM, cM, vss, hk]) ?_
  rintro x bx rfl
  simp only [go_sem, a1, a2, List.length_map]
  refine CallU.free (con_rmvalid m (cfgC s v) h hc.conf) (by simp only [go_sem]) (by simp only [go_sem, vM, cM, vss, hk, e0]) ?_
  rintro x bx rfl
  simp only [go_sem, a3]
  refine CallU.free hA (by simp only [go_sem]) (by simp only [go_sem, vM, cM, vss, hk]) ?_
  rintro x bx rfl
  simp only [go_sem]
end Go.AM

/-! ## FN -/
namespace Go.AM
open Go Go.Proofs Go.RowKit

theorem con_config28F (s : Nat) (v : List Int) (hv : v.length ≤ 100) : Con Tryz.prog 21 [vi s, vs 0 v] [] fun r _ => r = vV (cfgC s v) :=
  ((con_config28 s v hv).freezeR fun _ => true).weak fun r b ⟨r1, h3, h5⟩ => by
    subst h3; subst h5
    exact ⟨_, rfl, cfg_le _ _⟩
theorem con_r22yesF (m : MD) (i s : Nat) (v : List Int) (h : GoodM m) (hst : m.rules.all stillB = true) (hi : i < m.rules.length) (hc : GoodC m s v) (hb : ∀ x ∈ v, x ≤ 1000000) (he : enF m.rules[i]! s v = true) : Con Tryz.prog 22 [vM m, vi i, vV (cfgC s v)] [] fun x _ => x = .tup [.sl 0 2 [vV (cfgC m.rules[i]!.dst.toNat (fireF m.rules[i]! v))], vi 0] :=
  ((con_r22yes m i s v h hst hi hc hb he).freezeR fun _ => true).weak fun r b ⟨r1, h3, h5⟩ => by
    subst h3; subst h5
    refine ⟨_, rfl, leV_tup ⟨leV_slE rfl (fun y hy => ?_) ?_, leV_refl _, trivial⟩⟩
    · rw [List.mem_singleton] at hy; subst hy; rw [vV_eq]; rfl
    · generalize m.rules[i]!.dst.toNat = s
      generalize fireF m.rules[i]! v = v
      have e : Sub (.sl 0 2 (((s : Int) :: v).map kidN)) (.sl 0 2 ((((s : Int) :: v).map fun n => CV.mk n []).map vV)) :=
        Sub.slE (by simp) (fun y hy => by
          obtain ⟨x, _, rfl⟩ := List.mem_map.1 hy
          rw [vV_eq]; rfl) (kids_pw _)
      rw [vV_eq]
      exact PW.cons (Sub.refl _) (PW.cons e (PW.nil _))
theorem con_AfterF (m : MD) (c v : List Int) (n : Nat) (h : GoodM m) (hst : m.rules.all stillB = true) (hc : RulesOk m.rules c) (hl : c.length ≤ 64) (hv : VecS m.places.length v) (he : fcheckE m.rules c = 0) (hn : n ≤ 100) :
    Con Tryz.prog 20 [vM m, vs 0 c, vs 0 v, vi n] [] fun r _ => r = .tup (if doesB (needL m.places.length m.rules c) (chgL m.places.length m.rules c) v m.places.length n then [vs 0 (afterL m.places.length (chgL m.places.length m.rules c) v n), vi 0] else [.nil, vi 18]) :=
  ((con_After m c v n h hst hc hl hv he hn).freezeR fun _ => true).mono fun r _ ⟨r0, h0, h1⟩ => by
    subst h0; subst h1
    split <;> rfl
/-- the state before a rule of a cycle -/
def stF (rules : List RD) (c : List Int) (j : Nat) : Nat := rules[c[j % c.length]!.toNat]!.src.toNat
set_option maxRecDepth 100000 in
set_option maxHeartbeats 8000000 in
theorem con_runsLaw (l : List Int) (hl : l.length ≤ 9223372036854775807) (hx : ∀ x ∈ l, 0 ≤ x ∧ x < 256) :
    Con Tryz.prog 3 [.sl 0 1 (l.map vu)] [] fun r _ => r = vb true := by
  refine Con.intro Tryz.func3 rfl Tryz.ntmps3 Tryz.results3 (by kernel_rfl) (by simp) 0 (by simp) ?_
  have hs : Seeds (l.take 200) := ⟨by rw [List.length_take]; omega, fun x h => hx x (List.mem_of_mem_take h)⟩
  simp only [go_sem]
  refine CallU.free con_sane30 (by simp only [go_sem]) (by simp only [go_sem]) ?_
  rintro r bx rfl
  simp only [go_sem]
  refine CallU.news (bx0 := []) (con_new l hl) (by simp only [go_sem]) (by simp only [go_sem]) (by simp only [go_sem]) (by simp only [go_sem]) (by simp only [go_sem]) ?_
  rintro r bx ⟨rfl, rfl⟩
  generalize l.take 200 = l at hs
  simp only [go_sem]
  refine CallU.boxes (i := 0) (is := []) (bx0 := [diceA l 0]) (con_Counter l 0 hs (by omega)) (by simp only [go_sem]) (by simp only [go_sem]) (by simp only [go_sem]) (by simp only [go_sem]) (by simp only [go_sem]) ?_
  rintro r bx ⟨ns, np, rules, v0, at1, hd, ha1, rfl, rfl⟩
  have hP := deal_plain hd
  have hns := hd.hns
  have hnp := hd.hnp
  have hrl := hd.len
  have l1 : (dealM ns np rules v0).states.length = ns := states_len hns.2
  have l2 : (dealM ns np rules v0).places.length = np := places_len hnp.2
  have er : (dealM ns np rules v0).rules = rules := rfl
  generalize dealM ns np rules v0 = m at hP l1 l2 er
  subst er
  have hsm := good_small hP.good
  have hfine := hP.fine
  rw [l2] at hsm
  simp only [go_sem, vM, cM, vss]
  refine CallU.boxes (i := 0) (is := []) (bx0 := [diceA l at1]) (con_cycle l at1 m hs ha1 hP.good hP.still hrl) (by simp only [go_sem]) (by simp only [go_sem]) (by simp only [go_sem]) (by simp only [go_sem]) (by simp only [go_sem]) ?_
  rintro r bx ⟨c, at2, hc, hc1, hc3, ha2, rfl, rfl⟩
  simp only [go_sem]
  refine CallU.free (con_fcheck m c hP.good hP.still hc (by omega)) (by simp only [go_sem]) (by simp only [go_sem, vM, cM, vss]) ?_
  rintro r bx rfl
  by_cases he : fcheckE m.rules c = 0
  case neg =>
    have he2 : fcheckE m.rules c = 43 := by
      unfold fcheckE at he ⊢
      split
      · rfl
      · rename_i h1
        rw [if_neg h1] at he
        split
        · rename_i h2; rw [if_pos h2] at he; exact absurd rfl he
        · rfl
    simp only [go_sem, he2]
  have hp2 := pickA_le ha2
  have q1 := pickV_lt (l := l) (at_ := at2) (show (1 : Int) ≤ 6 by omega)
  have q2 := pickV_lt (l := l) (at_ := pickA l at2) (show (1 : Int) ≤ 6 by omega)
  simp only [go_sem, he]
  refine DrawK.effs0 0 [1, 3] [] 8 (.one 8 (.one 9 .done)) none (diceA l at2) mixed (by kernel_rfl) (by kernel_rfl) (by simp only [go_sem]) (by simp only [go_sem]) ?_
  simp only [go_sem]
  refine EffK.mk (con_pickF l at2 6 hs ha2 (by omega)) (by simp only [go_sem]) (by simp only [go_sem]) (by simp only [go_sem]) (by simp only [go_sem]) ?_
  simp only [go_sem]
  refine EffK.mk (con_pickF l (pickA l at2) 6 hs hp2 (by omega)) (by simp only [go_sem]) (by simp only [go_sem]) (by simp only [go_sem]) (by simp only [go_sem]) ?_
  simp only [go_sem, List.length_map, l2]
  refine ⟨⟨hnp.2, ?_⟩, trivial⟩
  obtain ⟨v, ev, hvl, hvb⟩ := take_two hnp q1 q2
  have hp3 := pickA_le hp2
  rw [ev]
  generalize pickA l (pickA l at2) = at3 at hp3
  have hVS : VecS m.places.length v := ⟨hvl.trans l2.symm, fun x hx => by have := hvb x hx; omega⟩
  have hT := con_Times m c v hP.good hP.still hc (by omega) hVS.ok he
  have hAf := fun (k : Nat) (hk : k ≤ 100) => con_AfterF m c v k hP.good hP.still hc (by omega) hVS he hk
  have hchain : chainB m.rules c = true := by
    unfold fcheckE at he
    rw [if_neg (by omega)] at he
    cases h : chainB m.rules c
    · rw [h] at he; simp at he
    · rfl
  have hS : fcheckS m.rules c = m.rules[c[0]!.toNat]!.src := by unfold fcheckS; rw [if_neg (by omega), hchain]; rfl
  have hsrc : ∀ j, j < c.length → 0 ≤ m.rules[c[j]!.toNat]!.src ∧ m.rules[c[j]!.toNat]!.src < ns ∧ c[j]!.toNat < m.rules.length ∧ ((c[j]!.toNat : Nat) : Int) = c[j]! := fun j hj => by
    have h1 := hc _ (mem_bangI hj)
    have h2 := (hfine _ (mem_bangI (show c[j]!.toNat < m.rules.length by omega))).right
    unfold RightR at h2
    rw [l1] at h2
    exact ⟨h2.1, h2.2.1, by omega, by omega⟩
  have hst0 : fcheckS m.rules c = (stF m.rules c 0 : Int) := by
    have := hsrc 0 (by omega)
    rw [hS]; unfold stF; rw [Nat.zero_mod]; omega
  have hstn : stF m.rules c c.length = stF m.rules c 0 := by unfold stF; rw [Nat.mod_self, Nat.zero_mod]
  rw [l2] at hT hAf
  refine CallU.freeze hT (by simp only [go_sem]) (by simp only [go_sem, vM, cM, vss]) ?_
  rintro r bx rfl
  have q3 := pickV_lt (l := l) (at_ := at3) (show (1 : Int) ≤ 5 by omega)
  obtain ⟨k5, ek5, hk5⟩ : ∃ k : Nat, pickV l at3 5 = k ∧ k < 5 := ⟨(pickV l at3 5).toNat, by omega, by omega⟩
  simp only [go_sem]
  refine CallU.boxes (i := 0) (is := []) (bx0 := [diceA l at3]) (con_pickF l at3 5 hs hp3 (by omega)) (by simp only [go_sem]) (by simp only [go_sem]) (by simp only [go_sem]) (by simp only [go_sem]) (by simp only [go_sem]) ?_
  rintro r b ⟨rfl, rfl⟩
  rw [ek5, hst0]
  obtain ⟨T, eT⟩ : ∃ T, T = timesP (needL np m.rules c) (chgL np m.rules c) v np := ⟨_, rfl⟩
  have hTlow : ∀ a, T = some a → 0 ≤ a := fun a h => timesP_low (eT.symm.trans h)
  have hdo : ∀ k : Int, doesB (needL np m.rules c) (chgL np m.rules c) v np k = true ↔ withinO k T := fun k => by rw [does_iff, eT]
  rw [← eT]
  obtain ⟨n, bd, K, hTe, hKT, hK⟩ : ∃ (n : Nat) (bd : Bool) (K : Nat), (T = if bd then some (n : Int) else none) ∧ (K = if bd then min k5 n else k5) ∧ K < 5 := by
    cases T with
    | none => exact ⟨0, false, k5, rfl, rfl, hk5⟩
    | some a =>
      have ha0 := hTlow a rfl
      refine ⟨a.toNat, true, min k5 a.toNat, ?_, rfl, by omega⟩
      rw [if_pos rfl, Int.toNat_of_nonneg ha0]
  have hdK : doesB (needL np m.rules c) (chgL np m.rules c) v np K = true := by
    rw [hdo, hTe, hKT]
    cases bd
    · trivial
    · show ((min k5 n : Nat) : Int) ≤ (n : Int); omega
  obtain ⟨s0, es0⟩ : ∃ s0, s0 = stF m.rules c 0 := ⟨_, rfl⟩
  rw [← es0] at hstn ⊢
  have hcv : cfgC s0 v = cfgC s0 (vecAt np m.rules c v 0 0) := by rw [vecAt_zero hvl]
  have hAK := hAf K (by omega)
  rw [hdK, if_pos rfl, vecAt_after] at hAK
  apply share3 (T := fun τ => τ.le ⟨187, [(4, .pb 1 0), (5, vs 0 c), (6, vi s0), (8, vs 0 v), (9, vi (optN T)), (10, vb T.isSome), (12, vi K), (13, vs 0 (vecAt np m.rules c v K 0)), (15, .pb 2 0), (16, vi 0)], [[.any, .any], cM m, [vi 0, .sl 0 2 ((cfgC s0 (vecAt np m.rules c v 0 0)).kids.map vV)]]⟩)
  · intro hsh
    cases bd
    case' false =>
      have hKT : K = k5 := hKT
      have hTe : T = none := hTe
      subst hKT hTe
      simp only [go_sem, Option.isSome_none, optN_none]
    case' true =>
      have hKT : K = min k5 n := hKT
      have hTe : T = some (n : Int) := hTe
      subst hTe
      simp only [go_sem, Option.isSome_some, optN_some]
      rw [← hKT]
    all_goals
      refine CallU.free hAK (by simp only [go_sem]) (by simp only [go_sem, vM, cM, vss]) ?_
      rintro r bx rfl
      simp only [go_sem]
      refine CallU.free (con_config28F s0 v (by omega)) (by simp only [go_sem]) (by simp only [go_sem]) ?_
      rintro r bx rfl
      have e0 := vV_eq (cfgC s0 (vecAt np m.rules c v 0 0))
      rw [hcv]
      simp only [go_sem, e0]
      refine hsh _ ?_
      simp only [go_sem, cM, vss]
      all_goals simp only [optN_some, optN_none, Option.isSome_none]
      all_goals first | exact ⟨leV_refl _, leV_refl _⟩ | exact ⟨⟨leV_refl _, leV_refl _⟩, leV_refl _⟩
  rintro τ hτ
  refine LoopK.intro (fun i : Nat => ⟨187, [(4, .pb 1 0), (5, vs 0 c), (6, vi s0), (8, vs 0 v), (9, vi (optN T)), (10, vb T.isSome), (12, vi K), (13, vs 0 (vecAt np m.rules c v K 0)), (15, .pb 2 0), (16, vi i)], [[.any, .any], cM m, [vi 0, .sl 0 2 ((cfgC s0 (vecAt np m.rules c v i 0)).kids.map vV)]]⟩)
    (fun i => K - i) (fun i => i ≤ K) 0 (by omega) hτ ?_
  rintro i hi
  have hstep : ∀ j, j < c.length → stF m.rules c j = m.rules[c[j]!.toNat]!.src.toNat ∧ stF m.rules c (j + 1) = m.rules[c[j]!.toNat]!.dst.toNat ∧ stF m.rules c j < ns := fun j hj => by
    have h1 := hsrc j hj
    have e1 : stF m.rules c j = m.rules[c[j]!.toNat]!.src.toNat := by unfold stF; rw [Nat.mod_eq_of_lt hj]
    refine ⟨e1, ?_, by omega⟩
    rw [chain_at hchain hj]; rfl
  have hgood : ∀ (i : Int) (j : Nat), 0 ≤ i ∧ i ≤ 100 → j < c.length → FeasAt np m.rules c v i j → GoodC m (stF m.rules c j) (vecAt np m.rules c v i j) ∧ ∀ x ∈ vecAt np m.rules c v i j, x ≤ 1000000 := fun i j hi hj hf => by
    have h1 := vecAt_high (j := j) hsm hc (by omega) ⟨hvl, fun x hx => by have := hvb x hx; omega⟩ hi
    have h2 := feasAt_low hsm hc hf
    refine ⟨⟨by rw [l1]; exact (hstep j hj).2.2, by rw [vecAt_len, l2], fun x hx => ?_⟩, fun x hx => ?_⟩
    · have := h1 x hx; have := h2 x hx; omega
    · have := h1 x hx; omega
  by_cases hil : i < K
  · have hfe := does_feasAt hdK hil
    have hw1 : IntKind.i64.wrap (i + 1) = i + 1 := wrap_in (by omega) (by omega)
    simp only [go_sem, cM, vss, hil]
    refine LoopK.intro (fun j : Nat => ⟨187, [(4, .pb 1 0), (5, vs 0 c), (6, vi s0), (8, vs 0 v), (9, vi (optN T)), (10, vb T.isSome), (12, vi K), (13, vs 0 (vecAt np m.rules c v K 0)), (15, .pb 2 0), (16, vi i), (93, vs 0 c), (94, vi c.length), (95, vi j)], [[.any, .any], cM m, [vi 0, .sl 0 2 ((cfgC (stF m.rules c j) (vecAt np m.rules c v i j)).kids.map vV)]]⟩)
      (fun j => c.length - j) (fun j => j ≤ c.length) 0 (by omega) ?_ ?_
    · simp only [go_sem, cM, vss, ← es0]
    rintro j hj
    by_cases hjl : j < c.length
    · have hsj := hsrc j hjl
      obtain ⟨hf1, hen⟩ := feasAt_en hsm hc hjl hsj.1 hfe
      obtain ⟨hG, hB⟩ := hgood i j (by omega) hjl hf1
      have hst := hstep j hjl
      rw [← hst.1] at hen
      have hap := con_r22yesF m c[j]!.toNat (stF m.rules c j) (vecAt np m.rules c v i j) hP.good hP.still hsj.2.2.1 hG hB hen
      rw [vecAt_fire hsm hc hjl, ← hst.2.1, hsj.2.2.2] at hap
      have e1 := vV_eq (cfgC (stF m.rules c j) (vecAt np m.rules c v i j))
      have en1 : (cfgC (stF m.rules c j) (vecAt np m.rules c v i j)).n = 0 := rfl
      rw [en1] at e1
      have e2 := vV_eq (cfgC (stF m.rules c (j + 1)) (vecAt np m.rules c v i (j + 1)))
      have en2 : (cfgC (stF m.rules c (j + 1)) (vecAt np m.rules c v i (j + 1))).n = 0 := rfl
      rw [en2] at e2
      have hg := getv hjl
      have hw2 : IntKind.i64.wrap (j + 1) = j + 1 := wrap_in (by omega) (by omega)
      rw [e1, e2] at hap
      simp only [go_sem, cM, vss, hjl, hg]
      refine CallU.free hap (by simp only [go_sem]) (by simp only [go_sem, vM, cM, vss]) ?_
      rintro r b rfl
      simp only [go_sem, List.length_cons, List.length_nil, hw2]
      refine roundK.intro (j + 1) (by omega) (by omega) ?_
      simp only [go_sem]
    · obtain rfl : j = c.length := by omega
      have e3 := vecAt_next np m.rules c v i
      rw [hstn, e3]
      simp only [go_sem, cM, vss, hjl, hw1]
      refine roundK.intro (i + 1) (by omega) (by omega) ?_
      simp only [go_sem]
  · obtain rfl : i = K := by omega
    have hvn := vecAt_len np m.rules c v i 0
    have hN : Con Tryz.prog 24 [.ag [vi 0, .sl 0 2 ((cfgC s0 (vecAt np m.rules c v i 0)).kids.map vV)]] [] fun r _ => r = vs 2 (vecAt np m.rules c v i 0) := by
      have h := con_rNumbers 0 (.mk s0 []) ((vecAt np m.rules c v i 0).map fun n => .mk n []) (by rw [List.length_map]; omega)
      rw [cfg_nums] at h
      exact h
    have hcfg := cfg_first (s := s0) (v := vecAt np m.rules c v i 0)
    have hkl := cfg_klen (s := s0) (v := vecAt np m.rules c v i 0)
    have hk0 : 0 < (cfgC s0 (vecAt np m.rules c v i 0)).kids.length := by omega
    simp only [go_sem, cM, vss, hil]
    refine CallU.free hN (by simp only [go_sem]) (by simp only [go_sem]) ?_
    rintro r b rfl
    simp only [go_sem]
    refine CallU.freeze (con_rsameI (vecAt np m.rules c v i 0) (vecAt np m.rules c v i 0) (by omega)) (by simp only [go_sem]) (by simp only [go_sem]) ?_
    rintro r b rfl
    have hself : (vecAt np m.rules c v i 0 == vecAt np m.rules c v i 0) = true := beq_self_eq_true _
    cases bd
    · have hTe : T = none := hTe
      subst hTe
      simp only [go_sem, hself, List.length_map, hk0, hcfg, Option.isSome_none]
    have hTe : T = some (n : Int) := hTe
    subst hTe
    by_cases hn20 : (n : Int) < 20
    case neg =>
      simp only [go_sem, hself, List.length_map, hk0, hcfg, Option.isSome_some, optN_some, hn20]
    have hdn : doesB (needL np m.rules c) (chgL np m.rules c) v np n = true := (hdo n).2 (Int.le_refl _)
    have hdn1 : doesB (needL np m.rules c) (chgL np m.rules c) v np ((n + 1 : Nat) : Int) = false := by
      cases h : doesB (needL np m.rules c) (chgL np m.rules c) v np ((n + 1 : Nat) : Int)
      · rfl
      · have : ((n + 1 : Nat) : Int) ≤ n := (hdo _).1 h
        omega
    have hAn := hAf n (by omega)
    rw [hdn, if_pos rfl, vecAt_after] at hAn
    have hAn1 := hAf (n + 1) (by omega)
    rw [hdn1] at hAn1
    have hwn : IntKind.i64.wrap ((n : Int) + 1) = ((n + 1 : Nat) : Int) := by rw [wrap_in (by omega) (by omega)]; omega
    have hvn2 := vecAt_len np m.rules c v n 0
    have hl0 := does_low hsm hc ⟨hvl, fun x hx => (hvb x hx).1⟩ hdn
    have e4 := vV_eq (cfgC s0 (vecAt np m.rules c v n 0))
    have en4 : (cfgC s0 (vecAt np m.rules c v n 0)).n = 0 := rfl
    rw [en4] at e4
    simp only [go_sem, hself, List.length_map, hk0, hcfg, Option.isSome_some, optN_some, hn20]
    refine CallU.free hAn (by simp only [go_sem]) (by simp only [go_sem, vM, cM, vss]) ?_
    rintro r b rfl
    simp only [go_sem]
    refine CallU.free (con_config28F s0 (vecAt np m.rules c v n 0) (by omega)) (by simp only [go_sem]) (by simp only [go_sem]) ?_
    rintro r b rfl
    simp only [go_sem, e4]
    refine LoopK.intro (fun j : Nat => ⟨187, [(4, .pb 1 0), (5, vs 0 c), (8, vs 0 v), (9, vi n), (23, .pb 3 0), (24, vb false), (149, vs 0 c), (150, vi c.length), (151, vi j)], [[.any, .any], cM m, [.any, .any], [vi 0, .sl 0 2 ((cfgC (stF m.rules c j) (vecAt np m.rules c v n j)).kids.map vV)]]⟩)
      (fun j => c.length - j) (fun j => j ≤ c.length ∧ FeasAt np m.rules c v n j) 0 ⟨by omega, hl0⟩ ?_ ?_
    · simp only [go_sem, cM, vss, ← es0]
    rintro j ⟨hj, hf1⟩
    by_cases hjl : j < c.length
    case neg =>
      obtain rfl : j = c.length := by omega
      have := feasAt_does hdn hf1
      rw [hdn1] at this; cases this
    have hsj := hsrc j hjl
    obtain ⟨hG, hB⟩ := hgood n j (by omega) hjl hf1
    have hst := hstep j hjl
    have e1 := vV_eq (cfgC (stF m.rules c j) (vecAt np m.rules c v n j))
    have en1 : (cfgC (stF m.rules c j) (vecAt np m.rules c v n j)).n = 0 := rfl
    rw [en1] at e1
    have hg := getv hjl
    have hw2 : IntKind.i64.wrap (j + 1) = j + 1 := wrap_in (by omega) (by omega)
    cases hen : enF m.rules[c[j]!.toNat]! (stF m.rules c j) (vecAt np m.rules c v n j)
    · have hap := con_r22no m c[j]!.toNat (stF m.rules c j) (vecAt np m.rules c v n j) hP.good hsj.2.2.1 hG hen
      rw [hsj.2.2.2, e1] at hap
      simp only [go_sem, cM, vss, hjl, hg]
      refine CallU.free hap (by simp only [go_sem]) (by simp only [go_sem, vM, cM, vss]) ?_
      rintro r b rfl
      simp only [go_sem, hwn]
      refine CallU.free hAn1 (by simp only [go_sem]) (by simp only [go_sem, vM, cM, vss]) ?_
      rintro r b rfl
      simp only [go_sem, Bool.false_eq_true, if_false]
    · have hen2 := hen
      rw [hst.1] at hen2
      have hnx := feasAt_next hsm hc hjl hsj.1 hf1 hen2
      have hap := con_r22yesF m c[j]!.toNat (stF m.rules c j) (vecAt np m.rules c v n j) hP.good hP.still hsj.2.2.1 hG hB hen
      rw [vecAt_fire hsm hc hjl, ← hst.2.1, hsj.2.2.2] at hap
      have e2 := vV_eq (cfgC (stF m.rules c (j + 1)) (vecAt np m.rules c v n (j + 1)))
      have en2 : (cfgC (stF m.rules c (j + 1)) (vecAt np m.rules c v n (j + 1))).n = 0 := rfl
      rw [en2] at e2
      rw [e1, e2] at hap
      simp only [go_sem, cM, vss, hjl, hg]
      refine CallU.free hap (by simp only [go_sem]) (by simp only [go_sem, vM, cM, vss]) ?_
      rintro r b rfl
      simp only [go_sem, List.length_cons, List.length_nil, hw2]
      refine roundK.intro (j + 1) ⟨by omega, hnx⟩ (by omega) ?_
      simp only [go_sem]
end Go.AM

/-! ## FO -/
namespace Go.AM
open Go Go.Proofs Go.RowKit

def numsB (most : Int) (l : List Int) : Bool := l.all fun x => decide (0 ≤ x) && decide (x ≤ most)
theorem nums_bad {most : Int} {l : List Int} {i : Nat} (h : i < l.length) (hb : l[i]! < 0 ∨ most < l[i]!) : numsB most l = false := by
  unfold numsB
  rw [List.all_eq_false]
  refine ⟨l[i]!, mem_bangI h, ?_⟩
  rcases hb with hb | hb
  · rw [decide_eq_false (by omega)]; simp
  · rw [decide_eq_false (show ¬ l[i]! ≤ most by omega)]; simp
theorem nums_good {most : Int} {l : List Int} (h : ∀ i, i < l.length → 0 ≤ l[i]! ∧ l[i]! ≤ most) : numsB most l = true := by
  unfold numsB
  rw [List.all_eq_true]
  intro x hx
  obtain ⟨i, hi, rfl⟩ := List.mem_iff_getElem.1 hx
  have := h i hi
  rw [getElem!_pos l i hi] at this
  rw [decide_eq_true this.1, decide_eq_true this.2]; rfl
theorem nums_iff {most : Int} {l : List Int} : numsB most l = true ↔ ∀ x ∈ l, 0 ≤ x ∧ x ≤ most := by
  unfold numsB
  rw [List.all_eq_true]
  simp only [Bool.and_eq_true, decide_eq_true_eq]
set_option maxRecDepth 100000 in
theorem con_r13numbers (l : List Int) (most : Int) (hl : l.length ≤ 1000000) : Con Tryz.prog 141 [vs 0 l, vi most] [] fun r _ => r = vb (numsB most l) := by
  refine Con.intro Tryz.func141 rfl Tryz.ntmps141 Tryz.results141 (by kernel_rfl) (by simp) 0 (by simp) ?_
  simp only [go_sem]
  refine LoopK.intro (fun i : Nat => ⟨25, [(0, vs 0 l), (1, vi most), (5, vi i)], []⟩)
    (fun i => l.length - i) (fun i => i ≤ l.length ∧ ∀ j, j < i → 0 ≤ l[j]! ∧ l[j]! ≤ most) 0 ⟨by omega, fun j hj => by omega⟩ ?_ ?_
  · simp only [go_sem]
    all_goals exact leV_refl _
  rintro i ⟨hi, hb⟩
  by_cases h : i < l.length
  · have hg := getv h
    have hw : IntKind.i64.wrap (i + 1) = i + 1 := wrap_in (by omega) (by omega)
    by_cases h1 : l[i]! < 0
    · simp only [go_sem, h, hg, h1, nums_bad h (.inl h1)]
    · by_cases h2 : most < l[i]!
      · simp only [go_sem, h, hg, h1, h2, nums_bad h (.inr h2)]
      · simp only [go_sem, h, hg, h1, h2, hw]
        refine roundK.intro (i + 1) ⟨by omega, fun j hj => ?_⟩ (by omega) ?_
        · by_cases hji : j = i
          · subst hji; omega
          · exact hb j (by omega)
        · simp only [go_sem]
  · have e : numsB most l = true := nums_good fun j hj => hb j (by omega)
    simp only [go_sem, h, e]
set_option maxRecDepth 100000 in
theorem con_r13zero (l : List Int) (hl : l.length ≤ 1000000) : Con Tryz.prog 189 [vs 0 l] [] fun r _ => r = vb (numsB 0 l) := by
  refine Con.intro Tryz.func189 rfl Tryz.ntmps189 Tryz.results189 (by kernel_rfl) (by simp) 0 (by simp) ?_
  simp only [go_sem]
  refine CallU.free (con_r13numbers l 0 hl) (by simp only [go_sem]) (by simp only [go_sem]) ?_
  rintro r bx rfl
  simp only [go_sem]
/-- a linear set of at most one period -/
def perL (ef : List Int) : List (List Int) := if numsB 0 ef = true then [] else [ef]
def linV (v ef : List Int) : AV := .ag [vs 0 v, .sl 0 1 ((perL ef).map (vs 0))]
attribute [go_sem] linV
/-- .. of small numbers -/
structure LinOk (np : Nat) (v ef : List Int) : Prop where
  dim : 1 ≤ np ∧ np ≤ 4
  base : v.length = np ∧ ∀ x ∈ v, 0 ≤ x ∧ x ≤ 16
  per : ef.length = np ∧ ∀ x ∈ ef, 0 ≤ x ∧ x ≤ 16
set_option maxRecDepth 100000 in
set_option maxHeartbeats 4000000 in
theorem con_r13fault (np : Nat) (v ef : List Int) (h : LinOk np v ef) : Con Tryz.prog 139 [vi np, linV v ef] [] fun r _ => r = vi 0 := by
  refine Con.intro Tryz.func139 rfl Tryz.ntmps139 Tryz.results139 (by kernel_rfl) (by simp) 0 (by simp) ?_
  have hd := h.dim
  have h1 : ((v.length : Int) != (np : Int)) = false := by rw [h.base.1]; simp
  have h2 : ((ef.length : Int) != (np : Int)) = false := by rw [h.per.1]; simp
  have nv : numsB 16 v = true := nums_iff.2 h.base.2
  have ne : numsB 16 ef = true := nums_iff.2 h.per.2
  cases hz : numsB 0 ef
  · have hp : perL ef = [ef] := by unfold perL; rw [hz]; rfl
    simp only [go_sem, hp, h1, List.map_cons, List.map_nil, List.length_map]
    refine LoopK.intro (fun i : Nat => ⟨78, [(0, vi np), (3, .pb 0 0), (5, vi i)], [[vs 0 v, .sl 0 1 [vs 0 ef]]]⟩)
      (fun i => 1 - i) (fun i => i ≤ 1) 0 (by omega) ?_ ?_
    · simp only [go_sem]
      all_goals exact leB_self _
    rintro i hi
    obtain rfl | rfl : i = 0 ∨ i = 1 := by omega
    · simp only [go_sem, List.length_cons, List.length_nil, h2, List.length_map]
      refine roundK.intro 1 (by omega) (by omega) ?_
      simp only [go_sem]
      all_goals exact leV_int rfl
    simp only [go_sem, List.length_cons, List.length_nil]
    refine CallU.free (con_r13numbers v 16 (by have := h.base.1; omega)) (by simp only [go_sem]) (by simp only [go_sem]) ?_
    rintro r bx rfl
    simp only [go_sem, nv]
    refine LoopK.intro (fun i : Nat => ⟨78, [(0, vi np), (3, .pb 0 0), (6, vi i)], [[vs 0 v, .sl 0 1 [vs 0 ef]]]⟩)
      (fun i => 1 - i) (fun i => i ≤ 1) 0 (by omega) ?_ ?_
    · simp only [go_sem]
      all_goals exact leB_self _
    rintro i hi
    obtain rfl | rfl : i = 0 ∨ i = 1 := by omega
    · simp only [go_sem, List.length_cons, List.length_nil]
      refine CallU.free (con_r13numbers ef 16 (by have := h.per.1; omega)) (by simp only [go_sem]) (by simp only [go_sem]) ?_
      rintro r bx rfl
      simp only [go_sem, ne, List.length_cons, List.length_nil]
      refine CallU.free (con_r13zero ef (by have := h.per.1; omega)) (by simp only [go_sem]) (by simp only [go_sem]) ?_
      rintro r bx rfl
      simp only [go_sem, hz]
      refine roundK.intro 1 (by omega) (by omega) ?_
      simp only [go_sem]
      all_goals exact leV_int rfl
    simp only [go_sem, List.length_cons, List.length_nil]
    refine LoopK.intro (fun _ : Nat => ⟨78, [(0, vi np), (3, .pb 0 0), (7, vi 1)], [[vs 0 v, .sl 0 1 [vs 0 ef]]]⟩)
      (fun i => i) (fun _ => True) 0 trivial ?_ ?_
    · simp only [go_sem]
      all_goals exact leB_self _
    rintro i _
    simp only [go_sem, List.length_cons, List.length_nil]
  · have hp : perL ef = [] := by unfold perL; rw [hz]; rfl
    simp only [go_sem, hp, h1, List.map_nil, List.length_map]
    refine LoopK.intro (fun _ : Nat => ⟨78, [(0, vi np), (3, .pb 0 0), (5, vi 0)], [[vs 0 v, .sl 0 1 []]]⟩)
      (fun i => i) (fun _ => True) 0 trivial ?_ ?_
    · simp only [go_sem]
      all_goals exact leB_self _
    rintro i _
    simp only [go_sem, List.length_nil]
    refine CallU.free (con_r13numbers v 16 (by have := h.base.1; omega)) (by simp only [go_sem]) (by simp only [go_sem]) ?_
    rintro r bx rfl
    simp only [go_sem, nv]
    refine LoopK.intro (fun _ : Nat => ⟨78, [(0, vi np), (3, .pb 0 0), (6, vi 0)], [[vs 0 v, .sl 0 1 []]]⟩)
      (fun i => i) (fun _ => True) 0 trivial ?_ ?_
    · simp only [go_sem]
      all_goals exact leB_self _
    rintro i _
    simp only [go_sem, List.length_nil]
    refine LoopK.intro (fun _ : Nat => ⟨78, [(0, vi np), (3, .pb 0 0), (7, vi 1)], [[vs 0 v, .sl 0 1 []]]⟩)
      (fun i => i) (fun _ => True) 0 trivial ?_ ?_
    · simp only [go_sem]
      all_goals exact leB_self _
    rintro i _
    simp only [go_sem, List.length_nil]
set_option maxRecDepth 100000 in
theorem con_r13valid (np : Nat) (v ef : List Int) (h : LinOk np v ef) : Con Tryz.prog 140 [linV v ef] [] fun r _ => r = vb true := by
  refine Con.intro Tryz.func140 rfl Tryz.ntmps140 Tryz.results140 (by kernel_rfl) (by simp) 0 (by simp) ?_
  have hd := h.dim
  have hvl := h.base.1
  have h1 : (1 : Int) ≤ (v.length : Int) := by omega
  have h2 : (v.length : Int) ≤ 4 := by omega
  have hf := con_r13fault np v ef h
  rw [← hvl] at hf
  simp only [go_sem, List.length_map, h1, h2]
  refine CallU.free hf (by simp only [go_sem]) (by simp only [go_sem]) ?_
  rintro r bx rfl
  simp only [go_sem]
set_option maxRecDepth 100000 in
theorem con_r13check (np : Nat) (v ef : List Int) (h : LinOk np v ef) : Con Tryz.prog 80 [vi np, .sl 0 2 [linV v ef]] [] fun r _ => r = vi 0 := by
  refine Con.intro Tryz.func80 rfl Tryz.ntmps80 Tryz.results80 (by kernel_rfl) (by simp) 0 (by simp) ?_
  have hd := h.dim
  have h1 : ¬ (np : Int) < 1 := by omega
  have h2 : ¬ (4 : Int) < (np : Int) := by omega
  simp only [go_sem, h1, h2, List.length_cons, List.length_nil]
  refine LoopK.intro (fun i : Nat => ⟨31, [(0, vi np), (1, .sl 0 2 [linV v ef]), (5, vi i)], []⟩)
    (fun i => 1 - i) (fun i => i ≤ 1) 0 (by omega) ?_ ?_
  · simp only [go_sem]
    all_goals exact leV_refl _
  rintro i hi
  obtain rfl | rfl : i = 0 ∨ i = 1 := by omega
  · simp only [go_sem, List.length_cons, List.length_nil]
    refine CallU.free (con_r13fault np v ef h) (by simp only [go_sem]) (by simp only [go_sem]) ?_
    rintro r bx rfl
    simp only [go_sem]
    refine roundK.intro 1 (by omega) (by omega) ?_
    simp only [go_sem]
    all_goals exact leV_int rfl
  simp only [go_sem, List.length_cons, List.length_nil]
/-- what is left over a base -/
def restL (np : Nat) (w v : List Int) : List Int := (List.range np).map fun p => w[p]! - v[p]!
theorem restL_len (np : Nat) (w v : List Int) : (restL np w v).length = np := by simp [restL]
theorem restL_at {np : Nat} {w v : List Int} {p : Nat} (h : p < np) : (restL np w v)[p]! = w[p]! - v[p]! := by
  rw [getElem!_pos _ p (by rw [restL_len]; exact h)]; simp [restL]
def aboveB (np : Nat) (w v : List Int) : Bool := (List.range np).all fun p => decide (v[p]! ≤ w[p]!)
set_option maxRecDepth 100000 in
set_option maxHeartbeats 1000000 in
theorem con_r13less (np : Nat) (w v : List Int) (hw : w.length = np ∧ ∀ x ∈ w, 0 ≤ x ∧ x ≤ 1048576) (hv : v.length = np ∧ ∀ x ∈ v, 0 ≤ x ∧ x ≤ 1048576) (h4 : np ≤ 4) :
    Con Tryz.prog 142 [vs 0 w, vs 0 v] [] fun r _ => r = .tup (if aboveB np w v then [vs 2 (restL np w v), vb true] else [.nil, vb false]) := by
  refine Con.intro Tryz.func142 rfl Tryz.ntmps142 Tryz.results142 (by kernel_rfl) (by simp) 0 (by simp) ?_
  simp only [go_sem]
  refine LoopK.intro (fun i : Nat => ⟨36, [(0, vs 0 w), (1, vs 0 v), (6, vs 2240 ((restL np w v).take i)), (7, vi i)], []⟩)
    (fun i => np - i) (fun i => i ≤ np ∧ ∀ j, j < i → v[j]! ≤ w[j]!) 0 ⟨by omega, fun j hj => by omega⟩ ?_ ?_
  · simp only [go_sem, List.take_zero, List.map_nil]
  rintro i ⟨hi, hb⟩
  by_cases h : i < np
  · have h1 : i < w.length := by omega
    have h2 : i < v.length := by omega
    have g1 := getv h1
    have g2 := getv h2
    have b1 := hw.2 _ (mem_bangI h1)
    have b2 := hv.2 _ (mem_bangI h2)
    have hw1 : IntKind.i64.wrap (i + 1) = i + 1 := wrap_in (by omega) (by omega)
    simp only [go_sem, h1]
    refine DrawK.walk 9 mixed (by kernel_rfl) ?_
    by_cases hq : w[i]! < v[i]!
    · have e : aboveB np w v = false := by
        unfold aboveB
        rw [List.all_eq_false]
        exact ⟨i, List.mem_range.2 h, by rw [decide_eq_false (by omega)]; simp⟩
      simp only [go_sem, h1, h2, g1, g2, hq, e, Bool.false_eq_true, if_false]
    · have w1 : IntKind.i64.wrap (w[i]! - v[i]!) = w[i]! - v[i]! := wrap_in (by omega) (by omega)
      have e2 : (restL np w v).take (i + 1) = (restL np w v).take i ++ [w[i]! - v[i]!] := by
        rw [List.take_add_one, List.getElem?_eq_getElem (by rw [restL_len]; exact h), ← restL_at (w := w) (v := v) h, getElem!_pos _ i (by rw [restL_len]; exact h)]; rfl
      have hr : roomFor (((restL np w v).take i).length + 1) 8 := by simp only [roomFor, List.length_take]; omega
      simp only [go_sem, h1, h2, g1, g2, hq]
      refine DrawK.walk 11 mixed (by kernel_rfl) ?_
      simp only [go_sem, h1, h2, g1, g2, w1, hw1, hr]
      refine roundK.intro (i + 1) ⟨by omega, fun j hj => ?_⟩ (by omega) ?_
      · by_cases hji : j = i
        · subst hji; omega
        · exact hb j (by omega)
      · simp only [go_sem, e2, List.map_append, List.map_cons, List.map_nil]
  · obtain rfl : i = np := by omega
    have h1 : ¬ i < w.length := by omega
    have e : aboveB i w v = true := by
      unfold aboveB
      rw [List.all_eq_true]
      intro j hj
      exact decide_eq_true (hb j (List.mem_range.1 hj))
    have e2 : (restL i w v).take i = restL i w v := List.take_of_length_le (by rw [restL_len]; exact Nat.le_refl _)
    simp only [go_sem, h1, e, e2, if_true]

/-! ### how many periods -/
/-- a vector less so many periods -/
def lessL (np : Nat) (r e : List Int) (k : Nat) : List Int := (List.range np).map fun p => r[p]! - k * e[p]!
theorem lessL_len (np : Nat) (r e : List Int) (k : Nat) : (lessL np r e k).length = np := by simp [lessL]
theorem lessL_at {np : Nat} {r e : List Int} {k p : Nat} (h : p < np) : (lessL np r e k)[p]! = r[p]! - k * e[p]! := by
  rw [getElem!_pos _ p (by rw [lessL_len]; exact h)]; simp [lessL]
def multP (np : Nat) (e r : List Int) (k : Nat) : Prop := ∀ p, p < np → r[p]! = k * e[p]!
set_option maxRecDepth 100000 in
theorem con_r13times0 (r : List Int) (hr : r.length ≤ 1000000) (hn : numsB 64 r = true) : Con Tryz.prog 143 [.sl 0 1 [], vs 0 r] [] fun x _ => x = .tup [.nil, vb (numsB 0 r)] := by
  refine Con.intro Tryz.func143 rfl Tryz.ntmps143 Tryz.results143 (by kernel_rfl) (by simp) 0 (by simp) ?_
  simp only [go_sem]
  refine CallU.free (con_r13numbers r 64 hr) (by simp only [go_sem]) (by simp only [go_sem]) ?_
  rintro x bx rfl
  simp only [go_sem, hn, List.length_nil]
  refine CallU.free (con_r13zero r hr) (by simp only [go_sem]) (by simp only [go_sem]) ?_
  rintro x bx rfl
  simp only [go_sem]
theorem con_r13times0F (r : List Int) (hr : r.length ≤ 1000000) (hn : numsB 64 r = true) : Con Tryz.prog 143 [.sl 0 1 [], vs 0 r] [] fun x _ => x = .tup [.sl 2 1 [], vb (numsB 0 r)] :=
  (con_r13times0 r hr hn).weak fun x b h => by
    subst h
    exact ⟨_, rfl, leV_tup ⟨leV_nil 2 1, leV_refl _, trivial⟩⟩
theorem zero_mult {np : Nat} {r e : List Int} {k : Nat} : numsB 0 (lessL np r e k) = true ↔ multP np e r k := by
  rw [nums_iff]
  constructor
  · intro h p hp
    have := h _ (mem_bangI (show p < (lessL np r e k).length by rw [lessL_len]; exact hp))
    rw [lessL_at hp] at this; omega
  · intro h x hx
    obtain ⟨p, hp, rfl⟩ := List.mem_map.1 hx
    have := h p (List.mem_range.1 hp)
    omega
set_option maxRecDepth 100000 in
set_option maxHeartbeats 4000000 in
theorem con_r13times1 (np : Nat) (e r : List Int) (he : e.length = np ∧ ∀ x ∈ e, 0 ≤ x ∧ x ≤ 16) (hz : numsB 0 e = false) (hr : r.length = np) (hn : numsB 64 r = true) (h4 : np ≤ 4) :
    Con Tryz.prog 143 [.sl 0 1 [vs 0 e], vs 0 r] [] fun x _ => ∃ y b, x = .tup [y, vb b] ∧ (y = .nil ∨ ∃ k : Int, y = vs 2 [k]) ∧ (b = true ↔ ∃ k, multP np e r k) := by
  refine Con.intro Tryz.func143 rfl Tryz.ntmps143 Tryz.results143 (by kernel_rfl) (by simp) 0 (by simp) ?_
  have hn1 := nums_iff.1 hn
  simp only [go_sem]
  refine CallU.free (con_r13numbers r 64 (by omega)) (by simp only [go_sem]) (by simp only [go_sem]) ?_
  rintro x bx rfl
  simp only [go_sem, hn, List.length_cons, List.length_nil]
  refine CallU.free (con_rcopy r (by omega)) (by simp only [go_sem]) (by simp only [go_sem]) ?_
  rintro x bx rfl
  simp only [go_sem]
  obtain ⟨p0, hp0, he0⟩ : ∃ p, p < np ∧ 1 ≤ e[p]! := by
    refine Classical.byContradiction fun hno => ?_
    have : numsB 0 e = true := nums_iff.2 fun x hx => by
      obtain ⟨i, hi, rfl⟩ := List.mem_iff_getElem.1 hx
      have h0 := he.2 _ (List.getElem_mem hi)
      have h1 : ¬ 1 ≤ e[i]! := fun h => hno ⟨i, by omega, h⟩
      rw [getElem!_pos e i hi] at h1
      omega
    rw [this] at hz; cases hz
  have el0 : lessL np r e 0 = r := ext_bang (lessL_len ..) hr fun p hp => by rw [lessL_at hp]; omega
  have hlow : ∀ k : Nat, numsB 64 (lessL np r e k) = true → k ≤ 64 := fun k h => by
    have h1 := nums_iff.1 h _ (mem_bangI (show p0 < (lessL np r e k).length by rw [lessL_len]; exact hp0))
    rw [lessL_at hp0] at h1
    have h2 := hn1 _ (mem_bangI (show p0 < r.length by omega))
    have h3 : (k : Int) * 1 ≤ k * e[p0]! := Int.mul_le_mul_of_nonneg_left he0 (by omega)
    omega
  refine LoopK.intro (fun k : Nat => ⟨55, [(0, .sl 0 1 [vs 0 e]), (6, vs 1346 (lessL np r e k)), (7, vi k)], []⟩)
    (fun k => 65 - k) (fun k => k ≤ 65 ∧ ∀ j, j < k → ¬ multP np e r j) 0 ⟨by omega, fun j hj => by omega⟩ ?_ ?_
  · simp only [go_sem, el0]
  rintro k ⟨hk, hkb⟩
  have hll := lessL_len np r e k
  simp only [go_sem]
  refine CallU.flat (con_r13numbers (lessL np r e k) 64 (by omega)) (by simp only [go_sem]) (by simp only [go_sem]) ?_
  rintro x bx rfl
  cases hN : numsB 64 (lessL np r e k)
  · simp only [go_sem]
    refine ⟨.nil, false, rfl, .inl rfl, ⟨fun h => Bool.noConfusion h, fun ⟨j, hj⟩ => ?_⟩⟩
    exfalso
    rcases Nat.lt_or_ge j k with hjk | hjk
    · exact hkb j hjk hj
    · have : numsB 64 (lessL np r e k) = true := nums_iff.2 fun x hx => by
        obtain ⟨p, hp, rfl⟩ := List.mem_map.1 hx
        have hp := List.mem_range.1 hp
        have h1 := hn1 _ (mem_bangI (show p < r.length by omega))
        have h2 := hj p hp
        have h3 := he.2 _ (mem_bangI (show p < e.length by omega))
        have h4 : (k : Int) * e[p]! ≤ j * e[p]! := Int.mul_le_mul_of_nonneg_right (by omega) h3.1
        have h5 : (0 : Int) ≤ k * e[p]! := Int.mul_nonneg (by omega) h3.1
        omega
      rw [hN] at this; cases this
  have hk64 := hlow k hN
  have hw : IntKind.i64.wrap (k + 1) = k + 1 := wrap_in (by omega) (by omega)
  simp only [go_sem, List.length_cons, List.length_nil]
  refine CallU.flat (con_r13times0F (lessL np r e k) (by omega) hN) (by simp only [go_sem]) (by simp only [go_sem]) ?_
  rintro x bx rfl
  cases hZ : numsB 0 (lessL np r e k)
  case true =>
    simp only [go_sem, List.length_cons, List.length_nil]
    exact ⟨by simp only [roomFor]; omega, _, true, rfl, .inr ⟨k, rfl⟩, ⟨fun _ => ⟨k, zero_mult.1 hZ⟩, fun _ => rfl⟩⟩
  have hnz : ¬ multP np e r k := fun h => by rw [zero_mult.2 h] at hZ; cases hZ
  simp only [go_sem]
  obtain ⟨f, ef⟩ : ∃ f : Nat → Int, f = fun p : Nat => r[p]! - ((k + 1 : Nat) : Int) * e[p]! := ⟨_, rfl⟩
  obtain ⟨g, eg⟩ : ∃ g : Nat → Int, g = (fun p : Nat => r[p]! - (k : Int) * e[p]!) := ⟨_, rfl⟩
  have e0 : lessL np r e k = mixL np 0 f g := by rw [mixL_zero, eg]; rfl
  have e1 : lessL np r e (k + 1) = mixL np np f g := by rw [mixL_full, ef]; rfl
  rw [e0]
  refine LoopK.intro (fun i : Nat => ⟨55, [(0, .sl 0 1 [vs 0 e]), (6, vs 1346 (mixL np i f g)), (7, vi k), (10, vi i)], []⟩)
    (fun i => np - i) (fun i => i ≤ np) 0 (by omega) ?_ ?_
  · simp only [go_sem]
    all_goals exact leV_refl _
  rintro i hi
  have ml := mixL_len np i f g
  by_cases hil : i < np
  · have h2 : i < e.length := by omega
    have g1 := getv (l := mixL np i f g) (i := i) (by omega)
    have g2 := getv h2
    rw [mixL_at hil, if_neg (by omega)] at g1
    have b1 := hn1 _ (mem_bangI (show i < r.length by omega))
    have b2 := he.2 _ (mem_bangI h2)
    have hgi : g i = r[i]! - k * e[i]! := by rw [eg]
    have hfi : f i = g i - e[i]! := by rw [ef, hgi]; simp only [Int.natCast_add, Int.add_mul]; omega
    have b3 := mul_bnd (a := (k : Int)) (b := e[i]!) (A := 64) (B := 16) (by omega) (by omega) (by omega) b2.2
    have w1 : IntKind.i64.wrap (g i - e[i]!) = f i := by rw [hfi]; exact wrap_in (by omega) (by omega)
    have hw1 : IntKind.i64.wrap (i + 1) = i + 1 := wrap_in (by omega) (by omega)
    have hs1 := mixL_set (np := np) (i := i) (f := f) (g := g)
    simp only [go_sem, ml, hil]
    refine DrawK.walk 12 mixed (by kernel_rfl) ?_
    simp only [go_sem, ml, hil, h2, g1, g2, w1, hw1, List.length_cons, List.length_nil]
    simp only [modify_vi, hs1]
    refine roundK.intro (i + 1) (by show i + 1 ≤ np; omega) (by show np - (i + 1) < np - i; omega) ?_
    simp only [go_sem]
  · obtain rfl : i = np := by omega
    simp only [go_sem, ml, hil, hw]
    refine roundK.intro (k + 1) ⟨by show k + 1 ≤ 65; omega, fun j hj => ?_⟩ (by show 65 - (k + 1) < 65 - k; omega) ?_
    · by_cases hjk : j = k
      · subst hjk; exact hnz
      · exact hkb j (by omega)
    · simp only [go_sem, e1]

/-! ### whether a linear set has a vector -/
/-- behind some number of times -/
def HasP (np : Nat) (v ef w : List Int) : Prop := ∃ k : Nat, ∀ p, p < np → w[p]! = v[p]! + k * ef[p]!
theorem mult_has {np : Nat} {v ef w : List Int} (ha : aboveB np w v = true ∨ ∀ p, p < np → 0 ≤ ef[p]!) : (aboveB np w v = true ∧ ∃ k, multP np ef (restL np w v) k) ↔ HasP np v ef w := by
  unfold HasP multP
  constructor
  · rintro ⟨_, k, hk⟩
    exact ⟨k, fun p hp => by have := hk p hp; rw [restL_at hp] at this; omega⟩
  · rintro ⟨k, hk⟩
    refine ⟨?_, k, fun p hp => by rw [restL_at hp]; have := hk p hp; omega⟩
    rcases ha with ha | ha
    · exact ha
    · unfold aboveB
      rw [List.all_eq_true]
      intro p hp
      have hp := List.mem_range.1 hp
      have := hk p hp
      have h2 : (0 : Int) ≤ k * ef[p]! := Int.mul_nonneg (by omega) (ha p hp)
      exact decide_eq_true (by omega)
set_option maxRecDepth 100000 in
set_option maxHeartbeats 1000000 in
theorem con_r13Times (np : Nat) (v ef w : List Int) (h : LinOk np v ef) (hw : w.length = np ∧ ∀ x ∈ w, 0 ≤ x ∧ x ≤ 64) :
    Con Tryz.prog 81 [linV v ef, vs 0 w] [] fun x _ => ∃ y b, x = .tup [y, vb b] ∧ (y = .nil ∨ ∃ k : Int, y = vs 2 [k]) ∧ (b = true ↔ HasP np v ef w) := by
  refine Con.intro Tryz.func81 rfl Tryz.ntmps81 Tryz.results81 (by kernel_rfl) (by simp) 0 (by simp) ?_
  have hd := h.dim
  have hlen : ((w.length : Int) != (v.length : Int)) = false := by rw [hw.1, h.base.1]; simp
  have hnw : numsB 64 w = true := nums_iff.2 hw.2
  have hep : ∀ p, p < np → 0 ≤ ef[p]! := fun p hp => (h.per.2 _ (mem_bangI (show p < ef.length by have := h.per.1; omega))).1
  have hmh := mult_has (w := w) (v := v) (.inr hep)
  have hval := con_r13valid np v ef h
  have hles := con_r13less np w v ⟨hw.1, fun x hx => by have := hw.2 x hx; omega⟩ ⟨h.base.1, fun x hx => by have := h.base.2 x hx; omega⟩ hd.2
  simp only [go_sem]
  refine CallU.free hval (by simp only [go_sem]) (by simp only [go_sem]) ?_
  rintro r bx rfl
  simp only [go_sem, List.length_map, hlen]
  refine CallU.free (con_r13numbers w 64 (by have := hw.1; omega)) (by simp only [go_sem]) (by simp only [go_sem]) ?_
  rintro r bx rfl
  simp only [go_sem, hnw]
  refine CallU.free hles (by simp only [go_sem]) (by simp only [go_sem]) ?_
  rintro r bx rfl
  cases ha : aboveB np w v
  · simp only [go_sem, Bool.false_eq_true, if_false]
    refine ⟨.nil, false, rfl, .inl rfl, ⟨fun h => Bool.noConfusion h, fun hh => ?_⟩⟩
    have := (hmh.2 hh).1
    rw [ha] at this; cases this
  have hnr : numsB 64 (restL np w v) = true := nums_iff.2 fun x hx => by
    obtain ⟨p, hp, rfl⟩ := List.mem_map.1 hx
    have hp := List.mem_range.1 hp
    have h1 := hw.2 _ (mem_bangI (show p < w.length by have := hw.1; omega))
    have h2 := h.base.2 _ (mem_bangI (show p < v.length by have := h.base.1; omega))
    unfold aboveB at ha
    rw [List.all_eq_true] at ha
    have h3 := of_decide_eq_true (ha p (List.mem_range.2 hp))
    omega
  have hrl := restL_len np w v
  rw [ha] at hmh
  cases hz : numsB 0 ef
  · have hp : perL ef = [ef] := by unfold perL; rw [hz]; rfl
    simp only [go_sem, if_true, hp, List.map_cons, List.map_nil]
    refine CallU.freeze (con_r13times1 np ef (restL np w v) h.per hz hrl hnr hd.2) (by simp only [go_sem]) (by simp only [go_sem]) ?_
    rintro r bx ⟨y, b, rfl, hy, hb⟩
    have hbb : b = true ↔ HasP np v ef w := by rw [hb, ← hmh]; simp
    rcases hy with rfl | ⟨k, rfl⟩
    · simp only [go_sem]
      exact ⟨.nil, b, rfl, .inl rfl, hbb⟩
    · simp only [go_sem, List.map_cons, List.map_nil]
      exact ⟨_, b, rfl, .inr ⟨k, rfl⟩, hbb⟩
  · have hp : perL ef = [] := by unfold perL; rw [hz]; rfl
    have hz2 := nums_iff.1 hz
    have hbb : numsB 0 (restL np w v) = true ↔ HasP np v ef w := by
      rw [← hmh, nums_iff]
      constructor
      · intro h0
        refine ⟨rfl, 0, fun p hp => ?_⟩
        have := h0 _ (mem_bangI (show p < (restL np w v).length by omega))
        omega
      · rintro ⟨_, k, hk⟩ x hx
        obtain ⟨p, hp, rfl⟩ := List.mem_map.1 hx
        have hp := List.mem_range.1 hp
        have h1 := hk p hp
        rw [restL_at hp] at h1
        have h2 := hz2 _ (mem_bangI (show p < ef.length by have := h.per.1; omega))
        have h3 : ef[p]! = 0 := by omega
        rw [h3] at h1
        omega
    simp only [go_sem, if_true, hp, List.map_nil]
    refine CallU.freeze (con_r13times0 (restL np w v) (by omega) hnr) (by simp only [go_sem]) (by simp only [go_sem]) ?_
    rintro r bx rfl
    simp only [go_sem]
    exact ⟨.nil, _, rfl, .inl rfl, hbb⟩
set_option maxRecDepth 100000 in
set_option maxHeartbeats 1000000 in
theorem con_r13Has (np : Nat) (v ef w : List Int) (h : LinOk np v ef) (hw : w.length = np ∧ ∀ x ∈ w, 0 ≤ x ∧ x ≤ 64) :
    Con Tryz.prog 27 [vi np, .sl 0 2 [linV v ef], vs 0 w] [] fun x _ => ∃ b, x = vb b ∧ (b = true ↔ HasP np v ef w) := by
  refine Con.intro Tryz.func27 rfl Tryz.ntmps27 Tryz.results27 (by kernel_rfl) (by simp) 0 (by simp) ?_
  have hlen : ((w.length : Int) != (np : Int)) = false := by rw [hw.1]; simp
  simp only [go_sem]
  refine CallU.free (con_r13check np v ef h) (by simp only [go_sem]) (by simp only [go_sem]) ?_
  rintro r bx rfl
  simp only [go_sem, List.length_map, hlen]
  refine LoopK.intro (fun i : Nat => ⟨36, [(1, .sl 0 2 [linV v ef]), (2, vs 0 w), (7, vi i)], []⟩)
    (fun i => 1 - i) (fun i => i ≤ 1 ∧ (i = 1 → ¬ HasP np v ef w)) 0 ⟨by omega, fun h => by omega⟩ ?_ ?_
  · simp only [go_sem]
    all_goals exact leV_refl _
  rintro i ⟨hi, hno⟩
  obtain rfl | rfl : i = 0 ∨ i = 1 := by omega
  · simp only [go_sem, List.length_cons, List.length_nil]
    refine CallU.free (con_r13Times np v ef w h hw) (by simp only [go_sem]) (by simp only [go_sem]) ?_
    rintro r bx ⟨y, b, rfl, hy, hb⟩
    have hw1 : IntKind.i64.wrap (0 + 1) = 1 := rfl
    cases b
    · rcases hy with rfl | ⟨k, rfl⟩
      all_goals
        simp only [go_sem, List.map_cons, List.map_nil]
        refine roundK.intro 1 ⟨by omega, fun _ hh => by have := hb.2 hh; cases this⟩ (by omega) ?_
        simp only [go_sem]
        all_goals exact leV_int rfl
    · rcases hy with rfl | ⟨k, rfl⟩
      all_goals
        simp only [go_sem, List.map_cons, List.map_nil]
        exact ⟨true, rfl, hb⟩
  · simp only [go_sem, List.length_cons, List.length_nil]
    exact ⟨false, rfl, ⟨fun h => Bool.noConfusion h, fun hh => absurd hh (hno rfl)⟩⟩
end Go.AM

/-! ## FP -/
namespace Go.AM
open Go Go.Proofs Go.RowKit

set_option maxRecDepth 100000 in
theorem con_fset1 (x : Int) : Con Tryz.prog 77 [vi x] [] fun r _ => r = .sc (.bool (decide (16 < x))) := by
  refine Con.intro Tryz.func77 rfl Tryz.ntmps77 Tryz.results77 (by kernel_rfl) (by simp) 0 (by simp) ?_
  by_cases h : 16 < x
  · simp only [go_sem, h, decide_true]
  · simp only [go_sem, h, decide_false]
set_option maxRecDepth 100000 in
theorem con_fset2 (x : Int) : Con Tryz.prog 79 [vi x] [] fun r _ => r = .sc (.bool (x != 0)) := by
  refine Con.intro Tryz.func79 rfl Tryz.ntmps79 Tryz.results79 (by kernel_rfl) (by simp) 0 (by simp) ?_
  simp only [go_sem]
set_option maxRecDepth 100000 in
set_option maxHeartbeats 2000000 in
theorem con_Set0 (m : MD) (c v : List Int) (h : GoodM m) (hst : m.rules.all stillB = true) (hc : RulesOk m.rules c) (hl : c.length ≤ 64) (hv : v.length = m.places.length ∧ ∀ x ∈ v, 0 ≤ x ∧ x ≤ 16) (h4 : m.places.length ≤ 4) :
    Con Tryz.prog 26 [vM m, vs 0 c, vs 0 v] [] fun r _ => ∃ (x : AV) (e : Int), r = .tup [x, vi e] ∧ ((e ≠ 0 ∧ x = .ag [.nil, .nil]) ∨
      (e = 0 ∧ fcheckE m.rules c = 0 ∧ timesP (needL m.places.length m.rules c) (chgL m.places.length m.rules c) v m.places.length = none ∧ (∀ x ∈ chgL m.places.length m.rules c, x ≤ 16) ∧
        x = .ag [vs 2 v, if numsB 0 (chgL m.places.length m.rules c) then .nil else .sl 3 1 [vs 0 (chgL m.places.length m.rules c)]])) := by
  refine Con.intro Tryz.func26 rfl Tryz.ntmps26 Tryz.results26 (by kernel_rfl) (by simp) 0 (by simp) ?_
  have h2 := h.places
  have hvO : VecOk m.places.length v := ⟨hv.1, fun x hx => by have := hv.2 x hx; omega⟩
  have hof := con_of1 m c [v] h hst hc hl (fun x hx => by rw [List.mem_singleton] at hx; subst hx; exact hvO) (by simp)
  rw [List.map_cons, List.map_nil] at hof
  have hlo := loop_ok h hc hl
  have hT := con_ltimes _ _ _ v hlo hvO h2.2
  obtain ⟨np, hnp⟩ : ∃ np, np = m.places.length := ⟨_, rfl⟩
  rw [← hnp] at hv hof h2 hlo hT h4 ⊢
  have hvl := hv.1
  have hcl := con_clone v (by omega) (by omega)
  by_cases he : fcheckE m.rules c = 0
  case neg =>
    have he' : (fcheckE m.rules c != 0) = true := bne_iff_ne.2 he
    rw [if_neg he] at hof
    simp only [go_sem, vM, cM, vss]
    refine CallU.freeze hof (by simp only [go_sem]) (by simp only [go_sem, vM, cM, vss]) ?_
    rintro x bx rfl
    simp only [go_sem, he']
    exact ⟨_, _, rfl, .inl ⟨he, rfl⟩⟩
  rw [if_pos he, he] at hof
  have hel := chgL_len np m.rules c
  unfold loopA at hof
  generalize chgL np m.rules c = ef at *
  generalize needL np m.rules c = nd at *
  have hcle := con_clone ef (by omega) (by omega)
  have hany1 : v.any (fun x => decide (16 < x)) = false := by
    rw [List.any_eq_false]
    intro x hx
    have := hv.2 x hx
    rw [decide_eq_false (by omega)]; simp
  have hv4 : ¬ (4 : Int) < (v.length : Int) := by omega
  simp only [go_sem, vM, cM, vss]
  refine CallU.freeze hof (by simp only [go_sem]) (by simp only [go_sem, vM, cM, vss]) ?_
  rintro x bx rfl
  simp only [go_sem]
  refine CallU.free hT (by simp only [go_sem]) (by simp only [go_sem]) ?_
  rintro x bx rfl
  cases hTT : timesP nd ef v np with
  | some a =>
    simp only [go_sem, Option.isSome_some, optN_some]
    exact ⟨_, _, rfl, .inl ⟨by omega, rfl⟩⟩
  | none =>
    simp only [go_sem, Option.isSome_none, optN_none, hv4]
    refine CallU.free (con_containsInt v 77 [] (fun x => decide (16 < x)) rfl (fun x _ => con_fset1 x) (by omega)) (by simp only [go_sem]) (by simp only [go_sem]) ?_
    rintro x bx rfl
    simp only [go_sem, hany1]
    refine CallU.free (con_containsInt ef 77 [] (fun x => decide (16 < x)) rfl (fun x _ => con_fset1 x) (by omega)) (by simp only [go_sem]) (by simp only [go_sem]) ?_
    rintro x bx rfl
    cases hany2 : ef.any (fun x => decide (16 < x))
    case true =>
      simp only [go_sem]
      exact ⟨_, _, rfl, .inl ⟨by omega, rfl⟩⟩
    have h16 : ∀ x ∈ ef, x ≤ 16 := fun x hx => by
      rw [List.any_eq_false] at hany2
      have := hany2 x hx
      rw [decide_eq_true_eq] at this; omega
    simp only [go_sem]
    refine CallU.free hcl (by simp only [go_sem]) (by simp only [go_sem]) ?_
    rintro x bx rfl
    simp only [go_sem]
    refine CallU.free (con_containsInt ef 79 [] (fun x => x != 0) rfl (fun x _ => con_fset2 x) (by omega)) (by simp only [go_sem]) (by simp only [go_sem]) ?_
    rintro x bx rfl
    have hze : ef.any (fun x => x != 0) = !numsB 0 ef := by
      cases hz : numsB 0 ef
      · cases hq : ef.any (fun x => x != 0)
        · exfalso
          rw [List.any_eq_false] at hq
          have : numsB 0 ef = true := nums_iff.2 fun x hx => by
            have := hq x hx
            simp at this; omega
          rw [hz] at this; cases this
        · rfl
      · rw [Bool.not_true, List.any_eq_false]
        intro x hx
        have := nums_iff.1 hz x hx
        have h0 : x = 0 := by omega
        rw [h0]; simp
    rw [hze]
    cases hz : numsB 0 ef
    · simp only [go_sem]
      refine CallU.free hcle (by simp only [go_sem]) (by simp only [go_sem]) ?_
      rintro x bx rfl
      simp only [go_sem]
      exact ⟨_, _, rfl, .inr ⟨rfl, he, h16, rfl⟩⟩
    · simp only [go_sem]
      exact ⟨_, _, rfl, .inr ⟨rfl, he, h16, rfl⟩⟩
theorem con_Set (m : MD) (c v : List Int) (h : GoodM m) (hst : m.rules.all stillB = true) (hc : RulesOk m.rules c) (hl : c.length ≤ 64) (hv : v.length = m.places.length ∧ ∀ x ∈ v, 0 ≤ x ∧ x ≤ 16) (h4 : m.places.length ≤ 4) :
    Con Tryz.prog 26 [vM m, vs 0 c, vs 0 v] [] fun r _ => (∃ e : Int, e ≠ 0 ∧ r = .tup [.ag [.nil, .nil], vi e]) ∨
      (fcheckE m.rules c = 0 ∧ timesP (needL m.places.length m.rules c) (chgL m.places.length m.rules c) v m.places.length = none ∧ (∀ x ∈ chgL m.places.length m.rules c, x ≤ 16) ∧ r = .tup [linV v (chgL m.places.length m.rules c), vi 0]) :=
  ((con_Set0 m c v h hst hc hl hv h4).freezeR fun _ => true).weak fun r b ⟨r1, ⟨x, e, h3, h5⟩, h6⟩ => by
    subst h3; subst h6
    rcases h5 with ⟨h7, rfl⟩ | ⟨rfl, h7, h8, h9, rfl⟩
    · exact ⟨_, .inl ⟨e, h7, rfl⟩, leV_refl _⟩
    · refine ⟨_, .inr ⟨h7, h8, h9, rfl⟩, ?_⟩
      unfold linV perL
      cases numsB 0 (chgL m.places.length m.rules c)
      · exact leV_refl _
      · exact leV_tup ⟨leV_ag ⟨leV_refl _, leV_nil 0 1, trivial⟩, leV_refl _, trivial⟩
end Go.AM

/-! ## FQ -/
namespace Go.AM
open Go Go.Proofs Go.RowKit

theorem least_of {P : Nat → Prop} : ∀ k, P k → ∃ k, P k ∧ ∀ j, j < k → ¬ P j := by
  intro k
  induction k using Nat.strongRecOn with
  | _ k ih =>
    intro h
    by_cases hex : ∃ j, j < k ∧ P j
    · obtain ⟨j, hj, hp⟩ := hex; exact ih j hj hp
    · exact ⟨k, h, fun j hj hp => hex ⟨j, hj, hp⟩⟩
theorem reach_has {np : Nat} {nd ef v w : List Int} (hv : v.length = np) (hw : w.length = np) (hT : timesP nd ef v np = none) : (reachF np nd ef v w).2 = true ↔ HasP np v ef w := by
  have hd : ∀ k : Int, doesB nd ef v np k = true := fun k => by rw [does_iff, hT]; trivial
  constructor
  · intro h
    obtain ⟨n, b⟩ : ∃ n, reachF np nd ef v w = (n, true) := ⟨(reachF np nd ef v w).1, by rw [← h]⟩
    obtain ⟨h1, _, h3⟩ := reach_ok hv hw b
    refine ⟨n.toNat, fun p hp => ?_⟩
    rw [← h3, afterL_at hp, Int.toNat_of_nonneg h1]
  · rintro ⟨k, hk⟩
    have hk2 : afterL np ef v k = w := ext_bang (afterL_len ..) hw fun p hp => by rw [afterL_at hp, hk p hp]
    obtain ⟨k2, h1, h2⟩ := least_of (P := fun k : Nat => afterL np ef v k = w) k hk2
    rw [reach_first hv hw (fun j hj hh => h2 j hj hh.2) (hd k2) h1]
theorem none_eff {nd ef v : List Int} : ∀ {np : Nat}, timesP nd ef v np = none → ∀ p, p < np → 0 ≤ ef[p]!
  | 0, _, p, hp => by omega
  | np + 1, h, p, hp => by
    rw [timesP] at h
    cases h1 : timesP nd ef v np with
    | some a => rw [h1] at h; cases h2 : timeAt nd[np]! ef[np]! v[np]! <;> (rw [h2] at h; simp [minO] at h)
    | none =>
      rw [h1] at h
      by_cases hpn : p = np
      · subst hpn
        have h3 : timeAt nd[p]! ef[p]! v[p]! = none := h
        unfold timeAt at h3
        split at h3
        · cases h3
        · split at h3
          · assumption
          · cases h3
      · exact none_eff h1 p (by omega)
theorem deal_chg {ns np : Nat} {rules : List RD} {v0 : List Int} {c : List Int} (h : DealM ns np rules v0) (hc : RulesOk rules c) (hl : c.length ≤ 3) {p : Nat} (hp : p < np) : chg (tksF rules c p) ≤ 6 := by
  have := chg_bnd (ts := tksF rules c p) (B := 2) (fun t ht => by
    obtain ⟨k, hk, rfl⟩ := List.mem_map.1 ht
    have hk' := hc k hk
    have hr := h.rules _ (mem_bangI (show k.toNat < rules.length by omega))
    have h1 := hr.need.2 _ (mem_bangI (show p < rules[k.toNat]!.need.length by rw [hr.need.1]; exact hp))
    have h2 := hr.give.2 _ (mem_bangI (show p < rules[k.toNat]!.give.length by rw [hr.give.1]; exact hp))
    exact ⟨h1.1, h1.2, h2.1, h2.2⟩) (by omega)
  rw [tks_len] at this
  omega
set_option maxRecDepth 100000 in
set_option maxHeartbeats 8000000 in
theorem con_setsLaw (l : List Int) (hl : l.length ≤ 9223372036854775807) (hx : ∀ x ∈ l, 0 ≤ x ∧ x < 256) :
    Con Tryz.prog 5 [.sl 0 1 (l.map vu)] [] fun r _ => r = vb true := by
  refine Con.intro Tryz.func5 rfl Tryz.ntmps5 Tryz.results5 (by kernel_rfl) (by simp) 0 (by simp) ?_
  have hs : Seeds (l.take 200) := ⟨by rw [List.length_take]; omega, fun x h => hx x (List.mem_of_mem_take h)⟩
  simp only [go_sem]
  refine CallU.free con_sane30 (by simp only [go_sem]) (by simp only [go_sem]) ?_
  rintro r bx rfl
  simp only [go_sem]
  refine CallU.news (bx0 := []) (con_new l hl) (by simp only [go_sem]) (by simp only [go_sem]) (by simp only [go_sem]) (by simp only [go_sem]) (by simp only [go_sem]) ?_
  rintro r bx ⟨rfl, rfl⟩
  generalize l.take 200 = l at hs
  simp only [go_sem]
  refine CallU.boxes (i := 0) (is := []) (bx0 := [diceA l 0]) (con_Counter l 0 hs (by omega)) (by simp only [go_sem]) (by simp only [go_sem]) (by simp only [go_sem]) (by simp only [go_sem]) (by simp only [go_sem]) ?_
  rintro r bx ⟨ns, np, rules, v0, at1, hd, ha1, rfl, rfl⟩
  have hP := deal_plain hd
  have hns := hd.hns
  have hnp := hd.hnp
  have hrl := hd.len
  have l1 : (dealM ns np rules v0).states.length = ns := states_len hns.2
  have l2 : (dealM ns np rules v0).places.length = np := places_len hnp.2
  have er : (dealM ns np rules v0).rules = rules := rfl
  generalize dealM ns np rules v0 = m at hP l1 l2 er
  subst er
  have hsm := good_small hP.good
  have hfine := hP.fine
  rw [l2] at hsm
  simp only [go_sem, vM, cM, vss]
  refine CallU.boxes (i := 0) (is := []) (bx0 := [diceA l at1]) (con_cycle l at1 m hs ha1 hP.good hP.still hrl) (by simp only [go_sem]) (by simp only [go_sem]) (by simp only [go_sem]) (by simp only [go_sem]) (by simp only [go_sem]) ?_
  rintro r bx ⟨c, at2, hc, hc1, hc3, ha2, rfl, rfl⟩
  have hp2 := pickA_le ha2
  have q1 := pickV_lt (l := l) (at_ := at2) (show (1 : Int) ≤ 6 by omega)
  have q2 := pickV_lt (l := l) (at_ := pickA l at2) (show (1 : Int) ≤ 6 by omega)
  simp only [go_sem]
  refine DrawK.effs0 0 [1, 3] [] 8 (.one 8 (.one 9 .done)) none (diceA l at2) mixed (by kernel_rfl) (by kernel_rfl) (by simp only [go_sem]) (by simp only [go_sem]) ?_
  simp only [go_sem]
  refine EffK.mk (con_pickF l at2 6 hs ha2 (by omega)) (by simp only [go_sem]) (by simp only [go_sem]) (by simp only [go_sem]) (by simp only [go_sem]) ?_
  simp only [go_sem]
  refine EffK.mk (con_pickF l (pickA l at2) 6 hs hp2 (by omega)) (by simp only [go_sem]) (by simp only [go_sem]) (by simp only [go_sem]) (by simp only [go_sem]) ?_
  simp only [go_sem, List.length_map, l2]
  refine ⟨⟨hnp.2, ?_⟩, trivial⟩
  obtain ⟨v, ev, hvl, hvb⟩ := take_two hnp q1 q2
  have hp3 := pickA_le hp2
  rw [ev]
  generalize pickA l (pickA l at2) = at3 at hp3
  have hVS : VecS m.places.length v := ⟨hvl.trans l2.symm, fun x hx => by have := hvb x hx; omega⟩
  have hSet := con_Set m c v hP.good hP.still hc (by omega) ⟨hvl.trans l2.symm, fun x hx => by have := hvb x hx; omega⟩ (by rw [l2]; omega)
  refine CallU.freeze hSet (by simp only [go_sem]) (by simp only [go_sem, vM, cM, vss]) ?_
  rintro r bx (⟨e, he, rfl⟩ | ⟨he, hT, h16, rfl⟩)
  · have he' : (e != 0) = true := bne_iff_ne.2 he
    simp only [go_sem, he']
  have hAf := fun (k : Nat) (hk : k ≤ 100) => con_AfterF m c v k hP.good hP.still hc (by omega) hVS he hk
  have hRe := fun w (hw : VecOk m.places.length w) => con_Reaches m c v w hP.good hP.still hc (by omega) hVS.ok hw he
  rw [l2] at hAf hRe hT h16
  have hchg : ∀ p, p < np → (chgL np m.rules c)[p]! ≤ 6 := fun p hp => by rw [chgL_at hp]; exact deal_chg hd hc hc3 hp
  have hel := chgL_len np m.rules c
  simp only [go_sem, l2]
  generalize chgL np m.rules c = ef at *
  generalize needL np m.rules c = nd at *
  have hef := none_eff hT
  have hdo : ∀ k : Int, doesB nd ef v np k = true := fun k => by rw [does_iff, hT]; trivial
  have hlin : LinOk np v ef := ⟨by omega, ⟨hvl, fun x hx => by have := hvb x hx; omega⟩, hel, fun x hx => by
    obtain ⟨i, hi, rfl⟩ := List.mem_iff_getElem.1 hx
    have h1 := hef i (by omega)
    have h2 := hchg i (by omega)
    rw [getElem!_pos ef i hi] at h1 h2
    omega⟩
  refine LoopK.intro (fun k : Nat => ⟨96, [(3, .pb 0 0), (4, .pb 1 0), (5, vs 0 c), (6, vs 0 v), (7, .pb 2 0), (9, vi k)], [diceA l at3, cM m, [vs 0 v, .sl 0 1 ((perL ef).map (vs 0))]]⟩)
    (fun k => 5 - k) (fun k => k ≤ 5) 0 (by omega) ?_ ?_
  · simp only [go_sem, cM, vss]
  rintro k hk
  by_cases hk5 : (k : Int) < 5
  · have hAk := hAf k (by omega)
    rw [hdo, if_pos rfl] at hAk
    have hw1 : IntKind.i64.wrap (k + 1) = k + 1 := wrap_in (by omega) (by omega)
    have hHas := con_r13Has np v ef (afterL np ef v k) hlin ⟨afterL_len .., fun x hx => by
      obtain ⟨p, hp, rfl⟩ := List.mem_map.1 hx
      have hp := List.mem_range.1 hp
      have h1 := hvb _ (mem_bangI (show p < v.length by omega))
      have h2 := hchg p hp
      have h3 := hef p hp
      have := mul_bnd (a := (k : Int)) (b := ef[p]!) (A := 4) (B := 6) (by omega) (by omega) (by omega) h2
      have h5 : (0 : Int) ≤ k * ef[p]! := Int.mul_nonneg (by omega) h3
      omega⟩
    have hyes : HasP np v ef (afterL np ef v k) := ⟨k, fun p hp => afterL_at hp⟩
    simp only [go_sem, cM, vss, hk5]
    refine CallU.free hAk (by simp only [go_sem]) (by simp only [go_sem, vM, cM, vss]) ?_
    rintro r b rfl
    simp only [go_sem, List.length_map]
    refine CallU.freeze hHas (by simp only [go_sem]) (by simp only [go_sem, hvl]) ?_
    rintro r bx ⟨b, rfl, hb⟩
    have hb1 : b = true := hb.2 hyes
    simp only [go_sem, hb1, hw1]
    refine roundK.intro (k + 1) (by omega) (by omega) ?_
    simp only [go_sem]
  have hp4 := pickA_le hp3
  have q3 := pickV_lt (l := l) (at_ := at3) (show (1 : Int) ≤ 12 by omega)
  have q4 := pickV_lt (l := l) (at_ := pickA l at3) (show (1 : Int) ≤ 12 by omega)
  simp only [go_sem, cM, vss, hk5]
  refine DrawK.effs0 0 [1, 3] [] 8 (.one 8 (.one 9 .done)) none (diceA l at3) mixed (by kernel_rfl) (by kernel_rfl) (by simp only [go_sem]) (by simp only [go_sem]) ?_
  simp only [go_sem]
  refine EffK.mk (con_pickF l at3 12 hs hp3 (by omega)) (by simp only [go_sem]) (by simp only [go_sem]) (by simp only [go_sem]) (by simp only [go_sem]) ?_
  simp only [go_sem]
  refine EffK.mk (con_pickF l (pickA l at3) 12 hs hp4 (by omega)) (by simp only [go_sem]) (by simp only [go_sem]) (by simp only [go_sem]) (by simp only [go_sem]) ?_
  simp only [go_sem, List.length_map, l2]
  refine ⟨⟨hnp.2, ?_⟩, trivial⟩
  obtain ⟨w, ew, hwl, hwb⟩ := take_two hnp q3 q4
  rw [ew]
  have hR := hRe w ⟨hwl, fun x hx => by have := hwb x hx; omega⟩
  have hrh := reach_has (nd := nd) hvl hwl hT
  have hHas := con_r13Has np v ef w hlin ⟨hwl, fun x hx => by have := hwb x hx; omega⟩
  refine CallU.freeze hR (by simp only [go_sem]) (by simp only [go_sem, vM, cM, vss]) ?_
  rintro r b rfl
  simp only [go_sem, List.length_map]
  refine CallU.freeze hHas (by simp only [go_sem]) (by simp only [go_sem, hvl]) ?_
  rintro r bx ⟨b, rfl, hb⟩
  have hbe : (reachF np nd ef v w).2 = b := by rw [Bool.eq_iff_iff, hrh, hb]
  rw [hbe]
  simp only [go_sem, beq_self_eq_true]
end Go.AM

/-! ## ClosedT -/
namespace Go.Proofs.YtlldkikmjeeamaaGreat
open Go.ChangeShapes Go.WideShapes Go.ChangeAt Go.RowKit Go.AM

theorem and_mk {a b : Bool} (h1 : a = true) (h2 : b = true) : (a && b) = true := by rw [h1, h2]; rfl
theorem cLaid : laidOutB Tryz.prog = true := by kernel_rfl
theorem cRowed : mapsRowed Tryz.prog = true := by kernel_rfl
theorem cHeard : Tryz.prog.stopsHeard = true := by kernel_rfl
theorem cEnter : Tryz.prog.mayEnter = true := by kernel_rfl
theorem cLifts : (Rows.flatSetsRow.lifted == Tryz.prog.liftsFinal) = true := by kernel_rfl
theorem flatSetsC0 : (Rows.flatSetsRow.wf (OpenSpec.ofChange Rows.flatSetsSpec)) = true := by kernel_rfl
theorem flatSetsC3 : (Tryz.f5.params.all (Tryz.prog.readableRec ·)) = true := by kernel_rfl
theorem flatSetsC4 : (namedTie Tryz.prog Rows.flatSetsRow.named Rows.flatSetsSpec.vars) = true := by kernel_rfl
theorem flatSetsC5 : ((Rows.flatSetsRow.stops == [])) = true := by kernel_rfl
theorem flatSetsC6 : ((Tryz.prog.stops == [])) = true := by kernel_rfl
theorem flatSetsC7 : ((Rows.flatSetsRow.knobs == [])) = true := by kernel_rfl
theorem flatSetsC8 : ((Tryz.prog.stopKnobs == [])) = true := by kernel_rfl
theorem flatSetsC9 : ((Rows.flatSetsRow.inPlace == Tryz.prog.inPlace 5)) = true := by kernel_rfl
theorem flatSetsC10 : ((Rows.flatSetsRow.unfollowed == Tryz.prog.unfollowed 5)) = true := by kernel_rfl
theorem flatSetsC11 : ((Rows.flatSetsRow.recurses == Tryz.prog.recurses 5)) = true := by kernel_rfl
theorem flatSetsC12 : ((Rows.flatSetsRow.named == Tryz.prog.varsNamed 5)) = true := by kernel_rfl
theorem flatSetsC13 : ((Rows.flatSetsRow.maps == (Tryz.f5.params.toList ++ Rows.flatSetsSpec.plain.varTypes Tryz.prog).any (Tryz.prog.mapsRec ·))) = true := by kernel_rfl
theorem flatSetsC14 : ((Rows.flatSetsRow.ifaces == (Tryz.f5.params.toList ++ Rows.flatSetsSpec.plain.varTypes Tryz.prog).any (Tryz.prog.ifacesRec ·))) = true := by kernel_rfl
theorem flatSetsC15 : ((Rows.flatSetsRow.mapsOut == Tryz.prog.mapsAmong Tryz.f5.resultTypes.toList)) = true := by kernel_rfl
theorem flatSetsC16 : ((Rows.flatSetsRow.loops == (Tryz.f5.params.toList ++ Rows.flatSetsSpec.plain.varTypes Tryz.prog).any (Tryz.prog.loopsFrom ·))) = true := by kernel_rfl
theorem flatSetsC17 : ((Rows.flatSetsRow.wideKeys == (Tryz.f5.params.toList ++ Rows.flatSetsSpec.plain.varTypes Tryz.prog ++ Tryz.f5.resultTypes.toList).any (Tryz.prog.wideKeysFrom ·))) = true := by kernel_rfl
theorem flatSetsC18 : (Rows.flatSetsSpec.vars.all (Tryz.prog.varReadable ·)) = true := by kernel_rfl
theorem flatSetsC19 : (Tryz.f5.resultTypes.all (fun t => Tryz.prog.readableRec t && decide (t < Tryz.prog.types.size))) = true := by kernel_rfl
theorem flatSetsC20 : ((Rows.flatSetsRow.ifacesOut == Tryz.f5.resultTypes.toList.any (Tryz.prog.ifacesRec ·))) = true := by kernel_rfl
theorem flatSetsC21 : ((Rows.flatSetsRow.loopsOut == Tryz.f5.resultTypes.toList.any (Tryz.prog.loopsFrom ·))) = true := by kernel_rfl
theorem flatSetsC22 : ((Rows.flatSetsRow.plainKeys == Tryz.prog.plainKeys)) = true := by kernel_rfl
theorem flatSetsC23 : (Rows.flatSetsRow.shortTexts.isNone) = true := by kernel_rfl
theorem flatSetsC27 : ((Tryz.prog.make == some Rows.flatSetsRow.make)) = true := by kernel_rfl
theorem flatSetsC28 : ((Rows.flatSetsRow.kinds == (if Rows.flatSetsRow.domain.isEmpty then [] else Tryz.f5.params.toList.map fun t => match Tryz.prog.underlying t with | some (.int k) => some k | _ => none))) = true := by kernel_rfl
theorem flatSetsC29 : ((Rows.flatSetsRow.pinned == Rows.flatSetsRow.pinnedBy)) = true := by kernel_rfl
theorem flatSetsC30 : ((Rows.flatSetsRow.veiled == (Tryz.f5.params.toList ++ Rows.flatSetsSpec.plain.varTypes Tryz.prog ++ Tryz.f5.resultTypes.toList).any (Tryz.prog.veiledRec ·))) = true := by kernel_rfl
theorem flatSetsC31 : (Rows.flatSetsRow.veiledFits Tryz.prog Tryz.f5.params.toList (Tryz.f5.params.toList ++ Rows.flatSetsSpec.plain.varTypes Tryz.prog ++ Tryz.f5.resultTypes.toList)) = true := by kernel_rfl
end Go.Proofs.YtlldkikmjeeamaaGreat

/-! ## ClosedTz -/
namespace Go.Proofs.YtlldkikmjeeamaaGreat
open Go.ChangeShapes Go.WideShapes Go.ChangeAt Go.RowKit Go.AM

set_option maxRecDepth 100000 in
theorem flatSetsClosed : joinedFacts Tryz.prog 5 Tryz.f5 Rows.flatSetsSpec Rows.flatSetsRow = true := by
  unfold joinedFacts
  exact and_mk (and_mk (and_mk (and_mk (and_mk (and_mk (and_mk (and_mk (and_mk (and_mk (and_mk (and_mk (and_mk (and_mk (and_mk (and_mk (and_mk (and_mk (and_mk (and_mk (and_mk (and_mk (and_mk (and_mk (and_mk (and_mk (and_mk (and_mk (and_mk (and_mk (and_mk flatSetsC0 cLaid) cRowed) flatSetsC3) flatSetsC4) flatSetsC5) flatSetsC6) flatSetsC7) flatSetsC8) flatSetsC9) flatSetsC10) flatSetsC11) flatSetsC12) flatSetsC13) flatSetsC14) flatSetsC15) flatSetsC16) flatSetsC17) flatSetsC18) flatSetsC19) flatSetsC20) flatSetsC21) flatSetsC22) flatSetsC23) cHeard) cEnter) cLifts) flatSetsC27) flatSetsC28) flatSetsC29) flatSetsC30) flatSetsC31
theorem flatSetsNamed : Tryz.prog.funcNamed Rows.flatSetsRow.func = some 5 := by kernel_rfl
end Go.Proofs.YtlldkikmjeeamaaGreat
