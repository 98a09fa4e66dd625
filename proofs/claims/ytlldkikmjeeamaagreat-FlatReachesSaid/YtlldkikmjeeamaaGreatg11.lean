/-
  Plain laws: vectors that a cycle reaches.
  Walks: FlatReaches, the whole law.
  Closed facts of rows, one by one.
  Closed facts of rows, together.
-/
import Derived.Test.YtlldkikmjeeamaaGreatg9
import Derived.Test.YtlldkikmjeeamaaGreatg10
/-! ## FJ -/
namespace Go.AM

theorem ext_bang {a b : List Int} {n : Nat} (ha : a.length = n) (hb : b.length = n) (h : ∀ i, i < n → a[i]! = b[i]!) : a = b := by
  refine List.ext_getElem (by omega) fun i h1 h2 => ?_
  have := h i (by omega)
  rw [getElem!_pos a i h1, getElem!_pos b i h2] at this; exact this
theorem does_zero {nd ef v : List Int} {np : Nat} : doesB nd ef v np 0 = true := by
  rw [does_iff]
  cases h : timesP nd ef v np with
  | none => trivial
  | some n => exact timesP_low h
theorem does_mono {nd ef v : List Int} {np : Nat} {a b : Int} (h : doesB nd ef v np b = true) (hab : a ≤ b) : doesB nd ef v np a = true := by
  rw [does_iff] at *
  cases hT : timesP nd ef v np with
  | none => trivial
  | some n => rw [hT] at h; exact Int.le_trans hab h
theorem after_zero {ef v : List Int} {np : Nat} (h : v.length = np) : afterL np ef v 0 = v :=
  ext_bang (afterL_len ..) h fun i hi => by rw [afterL_at hi]; omega
theorem first_find {ef v w : List Int} {np : Nat} {k : Int} (hk : k ≠ 0) (hw : ∀ i, i < np → v[i]! + k * ef[i]! = w[i]!) : ∀ n, n ≤ np → (firstN ef v w n = 0 ∧ ∀ i, i < n → ef[i]! = 0) ∨ firstN ef v w n = k
  | 0, _ => .inl ⟨rfl, fun i hi => by omega⟩
  | n + 1, hn => by
    unfold firstN
    rcases first_find hk hw n (by omega) with ⟨h1, h2⟩ | h1
    · by_cases he : ef[n]! = 0
      · left
        rw [if_neg (fun hh => hh.1 he)]
        refine ⟨h1, fun i hi => ?_⟩
        by_cases hin : i = n
        · subst hin; exact he
        · exact h2 i (by omega)
      · right
        rw [if_pos ⟨he, h1⟩]
        have := hw n (by omega)
        have e : w[n]! - v[n]! = k * ef[n]! := by omega
        rw [e, Int.mul_tdiv_cancel _ he]
    · right
      rw [if_neg (fun hh => hk (by rw [← h1]; exact hh.2))]; exact h1
/-- the first number of times is returned -/
theorem reach_first {np : Nat} {nd ef v w : List Int} {k : Nat} (hv : v.length = np) (hw : w.length = np) (hb : ∀ j : Nat, j < k → ¬ (doesB nd ef v np j = true ∧ afterL np ef v j = w)) (hd : doesB nd ef v np k = true) (ha : afterL np ef v k = w) :
    reachF np nd ef v w = ((k : Int), true) := by
  unfold reachF
  by_cases hvw : v = w
  · rw [if_pos hvw]
    have : k = 0 := by
      rcases Nat.eq_zero_or_pos k with h | h
      · exact h
      · exact absurd ⟨does_zero, by rw [show ((0 : Nat) : Int) = 0 from rfl, after_zero hv]; exact hvw⟩ (hb 0 h)
    rw [this]; rfl
  · rw [if_neg hvw]
    have hk : (k : Int) ≠ 0 := by
      intro h0
      rw [h0, after_zero hv] at ha
      exact hvw ha
    have hf : ∀ i, i < np → v[i]! + k * ef[i]! = w[i]! := fun i hi => by rw [← ha, afterL_at hi]
    have hN : firstN ef v w np = k := by
      rcases first_find hk hf np (Nat.le_refl _) with ⟨_, h2⟩ | h
      · exfalso
        apply hvw
        refine ext_bang hv hw fun i hi => ?_
        have := hf i hi
        rw [h2 i hi] at this; omega
      · exact h
    rw [hN, fits_good hf, hd, decide_eq_true (show 1 ≤ (k : Int) by omega)]
    rfl
/-- what is returned is a number of times -/
theorem reach_ok {np : Nat} {nd ef v w : List Int} {n : Int} (hv : v.length = np) (hw : w.length = np) (h : reachF np nd ef v w = (n, true)) : 0 ≤ n ∧ doesB nd ef v np n = true ∧ afterL np ef v n = w := by
  unfold reachF at h
  split at h
  · rename_i hvw
    injection h with h1 h2
    subst h1
    exact ⟨Int.le_refl _, does_zero, by rw [after_zero hv]; exact hvw⟩
  · split at h
    · rename_i hc
      rw [Bool.and_eq_true, Bool.and_eq_true] at hc
      injection h with h1 h2
      rw [h1] at hc
      have h3 := of_decide_eq_true hc.1.2
      refine ⟨by omega, hc.2, ext_bang (afterL_len ..) hw fun i hi => ?_⟩
      rw [afterL_at hi]
      have h4 := hc.1.1
      unfold fitsB at h4
      rw [List.all_eq_true] at h4
      exact beq_iff_eq.1 (h4 i (List.mem_range.2 hi))
    · injection h with h1 h2; cases h2
theorem feas_end : ∀ {ts : List Tk} {v : Int}, (∀ t ∈ ts, 0 ≤ t.2) → 0 ≤ v → feas ts v → 0 ≤ v + chg ts
  | [], v, _, h, _ => by simp [chg]; exact h
  | t :: ts, v, hg, hv, h => by
    have := feas_end (ts := ts) (v := v - t.1 + t.2) (fun x hx => hg x (List.mem_cons_of_mem _ hx)) (by have := hg t (List.mem_cons_self ..); have := h.1; omega) h.2
    simp only [chg]; omega
theorem rep_mem {ts : List Tk} {t : Tk} : ∀ {k}, t ∈ rep ts k → t ∈ ts
  | 0, h => by simp [rep] at h
  | k + 1, h => by
    rw [rep, List.mem_append] at h
    rcases h with h | h
    · exact h
    · exact rep_mem h
/-- doing a cycle k times from a vector, at each place -/
theorem does_feas {np : Nat} {rules : List RD} {c v : List Int} {k : Nat} (hs : ∀ r ∈ rules, SmallR np r) (hc : RulesOk rules c) (hv : v.length = np ∧ ∀ x ∈ v, 0 ≤ x) :
    doesB (needL np rules c) (chgL np rules c) v np k = true ↔ ∀ p, p < np → feas (rep (tksF rules c p) k) v[p]! := by
  rw [does_iff, timesP_iff]
  constructor
  · intro h p hp
    have hb := tks_bnd hs hc hp
    refine (feas_rep (fun t ht => (hb t ht).1) (fun t ht => (hb t ht).2.2.1) (hv.2 _ (mem_bangI (by omega))) k).2 fun i hi => ?_
    have := h p hp i hi
    rw [needL_at hp, chgL_at hp] at this; exact this
  · intro h p hp i hi
    have hb := tks_bnd hs hc hp
    have := (feas_rep (fun t ht => (hb t ht).1) (fun t ht => (hb t ht).2.2.1) (hv.2 _ (mem_bangI (by omega))) k).1 (h p hp) i hi
    rw [needL_at hp, chgL_at hp]; exact this
theorem after_low {np : Nat} {rules : List RD} {c v : List Int} {k : Nat} (hs : ∀ r ∈ rules, SmallR np r) (hc : RulesOk rules c) (hv : v.length = np ∧ ∀ x ∈ v, 0 ≤ x) (hd : doesB (needL np rules c) (chgL np rules c) v np k = true) :
    ∀ x ∈ afterL np (chgL np rules c) v k, 0 ≤ x := fun x hx => by
  obtain ⟨p, hp, rfl⟩ := List.mem_map.1 hx
  have hp := List.mem_range.1 hp
  have h1 := (does_feas hs hc hv).1 hd p hp
  have hb := tks_bnd hs hc hp
  have := feas_end (fun t ht => (hb t (rep_mem ht)).2.2.1) (hv.2 _ (mem_bangI (by omega))) h1
  rw [chg_rep, ← chgL_at hp] at this
  exact this
end Go.AM

/-! ## FL -/
namespace Go.AM
open Go Go.Proofs Go.RowKit

/-- two numbers of the dice, cut -/
theorem take_two {np : Nat} {a b B : Int} (hnp : 1 ≤ np ∧ np ≤ 2) (ha : 0 ≤ a ∧ a < B) (hb : 0 ≤ b ∧ b < B) : ∃ v : List Int, List.take np [AV.sc (.int .i64 a), AV.sc (.int .i64 b)] = v.map vi ∧ v.length = np ∧ ∀ x ∈ v, 0 ≤ x ∧ x < B := by
  refine ⟨List.take np [a, b], by rw [List.map_take]; rfl, by rw [List.length_take]; simp only [List.length_cons, List.length_nil]; omega, fun x hx => ?_⟩
  have := List.mem_of_mem_take hx
  simp only [List.mem_cons, List.not_mem_nil, or_false] at this
  rcases this with rfl | rfl <;> assumption
def afterTail : Tr := .one 5 (.one 6 (.alt (.one 7 (.alt (.one 8 (.one 9 (.one 10 .done))) (.one 9 (.one 8 (.one 10 .done))))) (.one 8 (.one 7 (.one 9 (.one 10 .done))))))
set_option maxRecDepth 100000 in
set_option maxHeartbeats 8000000 in
theorem con_reachesLaw (l : List Int) (hl : l.length ≤ 9223372036854775807) (hx : ∀ x ∈ l, 0 ≤ x ∧ x < 256) :
    Con Tryz.prog 4 [.sl 0 1 (l.map vu)] [] fun r _ => r = vb true := by
  refine Con.intro Tryz.func4 rfl Tryz.ntmps4 Tryz.results4 (by kernel_rfl) (by simp) 0 (by simp) ?_
  have hs : Seeds (l.take 200) := ⟨by rw [List.length_take]; omega, fun x h => hx x (List.mem_of_mem_take h)⟩
  simp only [go_sem]
  refine CallU.free con_sane30 (by simp only [go_sem]) (by simp only [go_sem]) ?_
  rintro r bx rfl
  simp only [go_sem]
  refine CallU.news (bx0 := []) (con_new l hl) (by simp only [go_sem]) (by simp only [go_sem]) (by simp only [go_sem]) (by simp only [go_sem]) (by simp only [go_sem]) ?_
  rintro r bx ⟨rfl, rfl⟩
  generalize l.take 200 = l at hs
  simp only [go_sem]
  refine CallU.boxes (i := 0) (is := []) (bx0 := [diceA l 0]) (con_Counter l 0 hs (by omega)) (by simp only [go_sem]) (by simp only [go_sem]) (by simp only [go_sem]) (by simp only [go_sem]) (by simp only [go_sem]) ?_
  rintro r bx ⟨ns, np, rules, v0, at1, hd, ha1, rfl, rfl⟩
  have hP := deal_plain hd
  have hns := hd.hns
  have hnp := hd.hnp
  have hrl := hd.len
  have l1 : (dealM ns np rules v0).states.length = ns := states_len hns.2
  have l2 : (dealM ns np rules v0).places.length = np := places_len hnp.2
  have er : (dealM ns np rules v0).rules = rules := rfl
  generalize dealM ns np rules v0 = m at hP l1 l2 er
  subst er
  have hsm := good_small hP.good
  rw [l2] at hsm
  simp only [go_sem, vM, cM, vss]
  refine CallU.boxes (i := 0) (is := []) (bx0 := [diceA l at1]) (con_cycle l at1 m hs ha1 hP.good hP.still hrl) (by simp only [go_sem]) (by simp only [go_sem]) (by simp only [go_sem]) (by simp only [go_sem]) (by simp only [go_sem]) ?_
  rintro r bx ⟨c, at2, hc, hc1, hc3, ha2, rfl, rfl⟩
  simp only [go_sem]
  refine CallU.free (con_fcheck m c hP.good hP.still hc (by omega)) (by simp only [go_sem]) (by simp only [go_sem, vM, cM, vss]) ?_
  rintro r bx rfl
  by_cases he : fcheckE m.rules c = 0
  case neg =>
    have he' : (fcheckE m.rules c != 0) = true := bne_iff_ne.2 he
    simp only [go_sem, he']
  have hp2 := pickA_le ha2
  have q1 := pickV_lt (l := l) (at_ := at2) (show (1 : Int) ≤ 6 by omega)
  have q2 := pickV_lt (l := l) (at_ := pickA l at2) (show (1 : Int) ≤ 6 by omega)
  simp only [go_sem, he]
  refine DrawK.effs0 0 [1, 3] [] 8 (.one 8 (.one 9 .done)) none (diceA l at2) mixed (by kernel_rfl) (by kernel_rfl) (by simp only [go_sem]) (by simp only [go_sem]) ?_
  simp only [go_sem]
  refine EffK.mk (con_pickF l at2 6 hs ha2 (by omega)) (by simp only [go_sem]) (by simp only [go_sem]) (by simp only [go_sem]) (by simp only [go_sem]) ?_
  simp only [go_sem]
  refine EffK.mk (con_pickF l (pickA l at2) 6 hs hp2 (by omega)) (by simp only [go_sem]) (by simp only [go_sem]) (by simp only [go_sem]) (by simp only [go_sem]) ?_
  simp only [go_sem, List.length_map, l2]
  refine ⟨⟨hnp.2, ?_⟩, trivial⟩
  obtain ⟨v, ev, hvl, hvb⟩ := take_two hnp q1 q2
  have hp3 := pickA_le hp2
  rw [ev]
  generalize pickA l (pickA l at2) = at3 at hp3
  have hp4 := pickA_le hp3
  have q3 := pickV_lt (l := l) (at_ := at3) (show (1 : Int) ≤ 9 by omega)
  have q4 := pickV_lt (l := l) (at_ := pickA l at3) (show (1 : Int) ≤ 9 by omega)
  refine DrawK.effs0 0 [1, 3] [] 8 (.one 8 (.one 9 .done)) none (diceA l at3) mixed (by kernel_rfl) (by kernel_rfl) (by simp only [go_sem]) (by simp only [go_sem]) ?_
  simp only [go_sem]
  refine EffK.mk (con_pickF l at3 9 hs hp3 (by omega)) (by simp only [go_sem]) (by simp only [go_sem]) (by simp only [go_sem]) (by simp only [go_sem]) ?_
  simp only [go_sem]
  refine EffK.mk (con_pickF l (pickA l at3) 9 hs hp4 (by omega)) (by simp only [go_sem]) (by simp only [go_sem]) (by simp only [go_sem]) (by simp only [go_sem]) ?_
  simp only [go_sem, List.length_map, l2]
  refine ⟨⟨hnp.2, ?_⟩, trivial⟩
  obtain ⟨w, ew, hwl, hwb⟩ := take_two hnp q3 q4
  have hp5 := pickA_le hp4
  rw [ew]
  generalize pickA l (pickA l at3) = at4 at hp5
  have hVS : VecS m.places.length v := ⟨hvl.trans l2.symm, fun x hx => by have := hvb x hx; omega⟩
  have q5 := pickV_lt (l := l) (at_ := at4) (show (1 : Int) ≤ 4 by omega)
  obtain ⟨k, ek, hk⟩ : ∃ k : Nat, pickV l at4 4 = k ∧ k < 4 := ⟨(pickV l at4 4).toNat, by omega, by omega⟩
  have hA := con_After m c v k hP.good hP.still hc (by omega) hVS he (by omega)
  have hlo := loop_ok hP.good hc (by omega)
  have hlow := fun (k : Nat) hd => after_low (k := k) (v := v) hsm hc ⟨hvl, fun x hx => (hvb x hx).1⟩ hd
  have hAf := fun (k : Nat) (hk : k ≤ 100) => con_After m c v k hP.good hP.still hc (by omega) hVS he hk
  have hRe := fun w (hw : VecOk m.places.length w) => con_Reaches m c v w hP.good hP.still hc (by omega) hVS.ok hw he
  rw [l2] at hA hlo hAf hRe
  have hel := chgL_len np m.rules c
  generalize chgL np m.rules c = ef at *
  generalize needL np m.rules c = nd at *
  refine DrawK.freeze (fun _ => true) ?_
  simp only [go_sem]
  cases hB : doesB nd ef v np k
  case' false =>
    rw [hB] at hA
    refine DrawK.meet ⟨112, [(3, .pb 0 0), (4, .pb 1 0), (5, vs 0 c), (8, vs 0 v), (9, vs 0 w), (10, .nil), (11, vi 18)], [diceA l (pickA l at4), cM m]⟩ ?_ ?_
  case' true =>
    rw [hB] at hA
    refine DrawK.meet ⟨112, [(3, .pb 0 0), (4, .pb 1 0), (5, vs 0 c), (8, vs 0 v), (9, vs 0 w), (10, vs 3842 (afterL np ef v k)), (11, vi 0)], [diceA l (pickA l at4), cM m]⟩ ?_ ?_
  case false.refine_1 =>
    refine DrawK.effs0 0 [4] [] 5 afterTail none (diceA l at4) mixed (by kernel_rfl) (by kernel_rfl) (by simp only [go_sem]) (by simp only [go_sem]) ?_
    simp only [go_sem]
    refine EffK.mk (con_pickF l at4 4 hs hp5 (by omega)) (by simp only [go_sem]) (by simp only [go_sem]) (by simp only [go_sem]) (by simp only [go_sem]) ?_
    unfold afterTail
    simp only [go_sem, ek]
    refine ⟨CallU.free hA (by simp only [go_sem]) (by simp only [go_sem, vM, cM, vss]) ?_, trivial⟩
    rintro r bx rfl
    repeat' (first | with_reducible apply andK_mk | simp only [go_sem, Bool.false_eq_true, if_false])
  case true.refine_1 =>
    refine DrawK.effs0 0 [4] [] 5 afterTail none (diceA l at4) mixed (by kernel_rfl) (by kernel_rfl) (by simp only [go_sem]) (by simp only [go_sem]) ?_
    simp only [go_sem]
    refine EffK.mk (con_pickF l at4 4 hs hp5 (by omega)) (by simp only [go_sem]) (by simp only [go_sem]) (by simp only [go_sem]) (by simp only [go_sem]) ?_
    unfold afterTail
    simp only [go_sem, ek]
    refine ⟨CallU.free hA (by simp only [go_sem]) (by simp only [go_sem, vM, cM, vss]) ?_, trivial⟩
    rintro r bx rfl
    repeat' (first | with_reducible apply andK_mk | simp only [go_sem, if_true])
  all_goals
    have hp6 := pickA_le hp5
    generalize pickA l at4 = at5 at *
  case' false.refine_2 =>
    have hW : VecOk np w := ⟨hwl, fun x hx => by have := hwb x hx; omega⟩
    generalize w = W at *
    simp only [go_sem, cM, vss]
  case' true.refine_2 =>
    have hp7 := pickA_le hp6
    have q6 := pickV_lt (l := l) (at_ := at5) (show (1 : Int) ≤ 2 by omega)
    simp only [go_sem, cM, vss]
    refine CallU.boxes (i := 0) (is := []) (bx0 := [diceA l at5]) (con_pickF l at5 2 hs hp6 (by omega)) (by simp only [go_sem]) (by simp only [go_sem]) (by simp only [go_sem]) (by simp only [go_sem]) (by simp only [go_sem]) ?_
    rintro r b ⟨rfl, rfl⟩
    generalize pickA l at5 = at6 at *
    have : pickV l at5 2 = 0 ∨ pickV l at5 2 = 1 := by omega
    rcases this with hz | hz
  case' true.refine_2.inl =>
    have hzz : (pickV l at5 2 == 0) = true := by rw [hz]; rfl
    have hW : VecOk np (afterL np ef v k) := ⟨afterL_len .., fun x hx => ⟨hlow k hB x hx, by
      obtain ⟨p, hp, rfl⟩ := List.mem_map.1 hx
      have hp := List.mem_range.1 hp
      have b1 := hvb _ (mem_bangI (show p < v.length by omega))
      have b2 := hlo.eff.2 _ (mem_bangI (show p < ef.length by omega))
      have := mul_bnd (a := (k : Int)) (b := ef[p]!) (A := 3) (B := 1100) (by omega) (by omega) b2.1 b2.2
      omega⟩⟩
    generalize afterL np ef v k = W at *
    simp only [go_sem, hzz]
  case' true.refine_2.inr =>
    have hzz : (pickV l at5 2 == 0) = false := by rw [hz]; rfl
    have hW : VecOk np w := ⟨hwl, fun x hx => by have := hwb x hx; omega⟩
    generalize w = W at *
    simp only [go_sem, hzz]
  all_goals
    have hR := hRe W hW
    have hrf := fun (j : Nat) => reach_first (nd := nd) (ef := ef) (k := j) hvl hW.1
    have hro := fun n => reach_ok (nd := nd) (ef := ef) (n := n) hvl hW.1
    obtain ⟨R, hRR⟩ : ∃ R, R = reachF np nd ef v W := ⟨_, rfl⟩
    rw [← hRR] at hR hrf hro
    refine CallU.freeze hR (by simp only [go_sem]) (by simp only [go_sem, vM, cM, vss]) ?_
    rintro r b rfl
    simp only [go_sem]
    refine LoopK.intro (fun j : Nat => ⟨112, [(4, .pb 1 0), (5, vs 0 c), (8, vs 0 v), (9, vs 0 W), (12, vi R.1), (13, vb R.2), (15, vi j)], [[.any, .any], cM m]⟩)
      (fun j => 12 - j) (fun j => j ≤ 12 ∧ ∀ i : Nat, i < j → ¬ (doesB nd ef v np i = true ∧ afterL np ef v i = W)) 0 ⟨by omega, fun i hi => by omega⟩ ?_ ?_
    · simp only [go_sem, cM, vss]
    rintro j ⟨hj, hjb⟩
    by_cases hjl : (j : Int) < 12
    case neg =>
      rcases R with ⟨R1, R2⟩
      cases R2 with
      | false => simp only [go_sem, cM, vss, hjl]
      | true =>
        have h4 := hro R1 rfl
        have h5 : (12 : Int) ≤ R1 := by
          refine Int.not_lt.1 fun hlt => ?_
          obtain ⟨q, rfl⟩ : ∃ q : Nat, R1 = q := ⟨R1.toNat, by omega⟩
          exact hjb q (by omega) h4.2
        simp only [go_sem, cM, vss, hjl, h5]
    have hAj := hAf j (by omega)
    have hw1 : IntKind.i64.wrap (j + 1) = j + 1 := wrap_in (by omega) (by omega)
    cases hD : doesB nd ef v np j
    · rw [hD] at hAj
      simp only [go_sem, cM, vss, hjl]
      refine CallU.free hAj (by simp only [go_sem]) (by simp only [go_sem, vM, cM, vss]) ?_
      rintro r b rfl
      simp only [go_sem, Bool.false_eq_true, if_false, hw1]
      refine roundK.intro (j + 1) ⟨by omega, fun i hi => ?_⟩ (by omega) ?_
      · by_cases hij : i = j
        · subst hij; rw [hD]; simp
        · exact hjb i (by omega)
      · simp only [go_sem]
    · rw [hD] at hAj
      have hal := afterL_len np ef v j
      simp only [go_sem, cM, vss, hjl]
      refine CallU.free hAj (by simp only [go_sem]) (by simp only [go_sem, vM, cM, vss]) ?_
      rintro r b rfl
      simp only [go_sem, if_true]
      refine CallU.freeze (con_rsameI (afterL np ef v j) W (by omega)) (by simp only [go_sem]) (by simp only [go_sem]) ?_
      rintro r b rfl
      by_cases hE : afterL np ef v j = W
      · have hE' : (afterL np ef v j == W) = true := beq_iff_eq.2 hE
        have h6 := hrf j hjb hD hE
        rw [h6]
        simp only [go_sem, hE', beq_self_eq_true]
      · have hE' : (afterL np ef v j == W) = false := beq_eq_false_iff_ne.2 hE
        simp only [go_sem, hE', hw1]
        refine roundK.intro (j + 1) ⟨by omega, fun i hi => ?_⟩ (by omega) ?_
        · by_cases hij : i = j
          · subst hij; exact fun hh => hE hh.2
          · exact hjb i (by omega)
        · simp only [go_sem]
end Go.AM

/-! ## ClosedR -/
namespace Go.Proofs.YtlldkikmjeeamaaGreat
open Go.ChangeShapes Go.WideShapes Go.ChangeAt Go.RowKit Go.AM

theorem and_mk {a b : Bool} (h1 : a = true) (h2 : b = true) : (a && b) = true := by rw [h1, h2]; rfl
theorem cLaid : laidOutB Tryz.prog = true := by kernel_rfl
theorem cRowed : mapsRowed Tryz.prog = true := by kernel_rfl
theorem cHeard : Tryz.prog.stopsHeard = true := by kernel_rfl
theorem cEnter : Tryz.prog.mayEnter = true := by kernel_rfl
theorem cLifts : (Rows.flatReachesRow.lifted == Tryz.prog.liftsFinal) = true := by kernel_rfl
theorem flatReachesC0 : (Rows.flatReachesRow.wf (OpenSpec.ofChange Rows.flatReachesSpec)) = true := by kernel_rfl
theorem flatReachesC3 : (Tryz.f4.params.all (Tryz.prog.readableRec ·)) = true := by kernel_rfl
theorem flatReachesC4 : (namedTie Tryz.prog Rows.flatReachesRow.named Rows.flatReachesSpec.vars) = true := by kernel_rfl
theorem flatReachesC5 : ((Rows.flatReachesRow.stops == [])) = true := by kernel_rfl
theorem flatReachesC6 : ((Tryz.prog.stops == [])) = true := by kernel_rfl
theorem flatReachesC7 : ((Rows.flatReachesRow.knobs == [])) = true := by kernel_rfl
theorem flatReachesC8 : ((Tryz.prog.stopKnobs == [])) = true := by kernel_rfl
theorem flatReachesC9 : ((Rows.flatReachesRow.inPlace == Tryz.prog.inPlace 4)) = true := by kernel_rfl
theorem flatReachesC10 : ((Rows.flatReachesRow.unfollowed == Tryz.prog.unfollowed 4)) = true := by kernel_rfl
theorem flatReachesC11 : ((Rows.flatReachesRow.recurses == Tryz.prog.recurses 4)) = true := by kernel_rfl
theorem flatReachesC12 : ((Rows.flatReachesRow.named == Tryz.prog.varsNamed 4)) = true := by kernel_rfl
theorem flatReachesC13 : ((Rows.flatReachesRow.maps == (Tryz.f4.params.toList ++ Rows.flatReachesSpec.plain.varTypes Tryz.prog).any (Tryz.prog.mapsRec ·))) = true := by kernel_rfl
theorem flatReachesC14 : ((Rows.flatReachesRow.ifaces == (Tryz.f4.params.toList ++ Rows.flatReachesSpec.plain.varTypes Tryz.prog).any (Tryz.prog.ifacesRec ·))) = true := by kernel_rfl
theorem flatReachesC15 : ((Rows.flatReachesRow.mapsOut == Tryz.prog.mapsAmong Tryz.f4.resultTypes.toList)) = true := by kernel_rfl
theorem flatReachesC16 : ((Rows.flatReachesRow.loops == (Tryz.f4.params.toList ++ Rows.flatReachesSpec.plain.varTypes Tryz.prog).any (Tryz.prog.loopsFrom ·))) = true := by kernel_rfl
theorem flatReachesC17 : ((Rows.flatReachesRow.wideKeys == (Tryz.f4.params.toList ++ Rows.flatReachesSpec.plain.varTypes Tryz.prog ++ Tryz.f4.resultTypes.toList).any (Tryz.prog.wideKeysFrom ·))) = true := by kernel_rfl
theorem flatReachesC18 : (Rows.flatReachesSpec.vars.all (Tryz.prog.varReadable ·)) = true := by kernel_rfl
theorem flatReachesC19 : (Tryz.f4.resultTypes.all (fun t => Tryz.prog.readableRec t && decide (t < Tryz.prog.types.size))) = true := by kernel_rfl
theorem flatReachesC20 : ((Rows.flatReachesRow.ifacesOut == Tryz.f4.resultTypes.toList.any (Tryz.prog.ifacesRec ·))) = true := by kernel_rfl
theorem flatReachesC21 : ((Rows.flatReachesRow.loopsOut == Tryz.f4.resultTypes.toList.any (Tryz.prog.loopsFrom ·))) = true := by kernel_rfl
theorem flatReachesC22 : ((Rows.flatReachesRow.plainKeys == Tryz.prog.plainKeys)) = true := by kernel_rfl
theorem flatReachesC23 : (Rows.flatReachesRow.shortTexts.isNone) = true := by kernel_rfl
theorem flatReachesC27 : ((Tryz.prog.make == some Rows.flatReachesRow.make)) = true := by kernel_rfl
theorem flatReachesC28 : ((Rows.flatReachesRow.kinds == (if Rows.flatReachesRow.domain.isEmpty then [] else Tryz.f4.params.toList.map fun t => match Tryz.prog.underlying t with | some (.int k) => some k | _ => none))) = true := by kernel_rfl
theorem flatReachesC29 : ((Rows.flatReachesRow.pinned == Rows.flatReachesRow.pinnedBy)) = true := by kernel_rfl
theorem flatReachesC30 : ((Rows.flatReachesRow.veiled == (Tryz.f4.params.toList ++ Rows.flatReachesSpec.plain.varTypes Tryz.prog ++ Tryz.f4.resultTypes.toList).any (Tryz.prog.veiledRec ·))) = true := by kernel_rfl
theorem flatReachesC31 : (Rows.flatReachesRow.veiledFits Tryz.prog Tryz.f4.params.toList (Tryz.f4.params.toList ++ Rows.flatReachesSpec.plain.varTypes Tryz.prog ++ Tryz.f4.resultTypes.toList)) = true := by kernel_rfl
end Go.Proofs.YtlldkikmjeeamaaGreat

/-! ## ClosedRz -/
namespace Go.Proofs.YtlldkikmjeeamaaGreat
open Go.ChangeShapes Go.WideShapes Go.ChangeAt Go.RowKit Go.AM

set_option maxRecDepth 100000 in
theorem flatReachesClosed : joinedFacts Tryz.prog 4 Tryz.f4 Rows.flatReachesSpec Rows.flatReachesRow = true := by
  unfold joinedFacts
  exact and_mk (and_mk (and_mk (and_mk (and_mk (and_mk (and_mk (and_mk (and_mk (and_mk (and_mk (and_mk (and_mk (and_mk (and_mk (and_mk (and_mk (and_mk (and_mk (and_mk (and_mk (and_mk (and_mk (and_mk (and_mk (and_mk (and_mk (and_mk (and_mk (and_mk (and_mk flatReachesC0 cLaid) cRowed) flatReachesC3) flatReachesC4) flatReachesC5) flatReachesC6) flatReachesC7) flatReachesC8) flatReachesC9) flatReachesC10) flatReachesC11) flatReachesC12) flatReachesC13) flatReachesC14) flatReachesC15) flatReachesC16) flatReachesC17) flatReachesC18) flatReachesC19) flatReachesC20) flatReachesC21) flatReachesC22) flatReachesC23) cHeard) cEnter) cLifts) flatReachesC27) flatReachesC28) flatReachesC29) flatReachesC30) flatReachesC31
theorem flatReachesNamed : Tryz.prog.funcNamed Rows.flatReachesRow.func = some 4 := by kernel_rfl
end Go.Proofs.YtlldkikmjeeamaaGreat
